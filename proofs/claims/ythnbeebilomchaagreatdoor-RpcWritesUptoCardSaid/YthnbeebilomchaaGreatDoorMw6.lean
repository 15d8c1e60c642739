/- What params tell, the document's: walked. The document's Read: walked. Changes as a value, the document's: walked. Changes as a value, the document's: the walk. Keys and values that grow, and what is told of a call: what is held. What is told of a call, the document's: walked. -/
import Derived.Test.YthnbeebilomchaaGreatDoorMw5
namespace Go.Proofs.YthnbeebilomchaaGreatDoor
open Go Go.RowKit

def ParE (w : World) (P : Nat → Prop) (k : Nat) (x v : V) (e : Ending) (w' : World) : Prop := ∃ (c : CD) (ok : Bool), e = .returned (.tuple #[.agg (cdC c), .bool ok]) ∧ ok = (tellL k x v).isSome ∧ (∀ y, tellL k x v = some y → c.k = y) ∧ 0 ≤ c.kind ∧ CallP w' (fun g => P g ∨ w.heap.size ≤ g) c ∧ Below w.heap.size w w'
def QQ (w : World) (P : Nat → Prop) (k : Nat) : Prop := (k < w.heap.size ∧ P k) ∨ w.heap.size + 3 ≤ k
theorem QQ.far {w : World} {P : Nat → Prop} {k : Nat} (h : QQ w P k) : k ≠ w.heap.size ∧ k ≠ w.heap.size + 1 ∧ k ≠ w.heap.size + 2 := by
  rcases h with h | h
  · have := h.1; omega
  · omega
structure PmS (w : World) (P : Nat → Prop) (d : VD) (c : CD) (W : World) : Prop where
  below : Below w.heap.size w W
  cblk : Blk W w.heap.size (cdC c) 31
  pblk : Blk W (w.heap.size + 1) #[.int .i64 d.sort, .bool d.on, .int .i64 d.n, .string ⟨d.text.toArray⟩, .slice d.a d.list.length d.c, .slice d.ka d.keys.length d.kc] 26
  rblk : Blk W (w.heap.size + 2) (cdC zeroCD) 31
  val : ValAt W (fun k => k < w.heap.size ∧ P k) d
  cat : CallP W (QQ w P) c
section
variable {w : World} {P : Nat → Prop} {d : VD} {c c' : CD} {W W' : World}
theorem CallP.keep (h : CallP W P c) (hb : ∀ k, P k → k < W.heap.size → W'.heap[k]? = W.heap[k]?) : CallP W' P c :=
  ⟨h.id.congr hb, h.other.congr hb, h.row.congr fun g h1 h2 h3 => hb g (h.blk g (by omega) h2) h3, h.blk⟩
theorem PmS.ext (h : PmS w P d c W) (hb : Below W.heap.size W W') : PmS w P d c W' :=
  ⟨h.below.trans (hb.mono h.below.size), h.cblk.ext hb, h.pblk.ext hb, h.rblk.ext hb, h.val.ext hb, h.cat.keep fun k _ hk => hb.block k hk⟩
theorem PmS.sz (h : PmS w P d c W) : w.heap.size + 3 ≤ W.heap.size := h.rblk.lt
theorem PmS.turn (h : PmS w P d c W) (hc : Blk W' w.heap.size (cdC c') 31) (ho : ∀ k, k ≠ w.heap.size → W'.heap[k]? = W.heap[k]?) (hbl : Below w.heap.size W W') (hcat : CallP W (QQ w P) c') : PmS w P d c' W' :=
  ⟨h.below.trans hbl, hc, (ho _ (by omega)).trans h.pblk, (ho _ (by omega)).trans h.rblk, h.val.congr fun k hk _ => ho k (by have := hk.1; omega), hcat.keep fun k hk _ => ho k hk.far.1⟩
theorem PmS.put (h : PmS w P d c W) (o : Nat) (u : Value) (he : (cdC c).setIfInBounds o u = cdC c') (hcat : CallP W (QQ w P) c') : PmS w P d c' (W.setCell ⟨w.heap.size, o, none⟩ u) :=
  h.turn (by rw [← he]; exact h.cblk.set o u) (fun k hk => Below.heap_setCell W ⟨w.heap.size, o, none⟩ u k hk) ((Below.refl _ _).setCell (p := ⟨w.heap.size, o, none⟩) (Nat.le_refl _) u) hcat
theorem PmS.other (h : PmS w P d c W) {x : VD} (hx : ValAt W (QQ w P) x) : PmS w P d { c with other := x } (put6 W w.heap.size 13 (.int .i64 x.sort) (.bool x.on) (.int .i64 x.n) (.string ⟨x.text.toArray⟩) (.slice x.a x.list.length x.c) (.slice x.ka x.keys.length x.kc)) := by
  refine h.turn ?_ (fun k hk => put6_other hk) (put6_below (Below.refl _ _) (Nat.le_refl _)) ⟨h.cat.id, hx, h.cat.row, h.cat.blk⟩
  have h1 := (((((h.cblk.set 13 (.int .i64 x.sort)).set 14 (.bool x.on)).set 15 (.int .i64 x.n)).set 16 (.string ⟨x.text.toArray⟩)).set 17 (.slice x.a x.list.length x.c)).set 18 (.slice x.ka x.keys.length x.kc)
  have e : ((((((cdC c).setIfInBounds 13 (.int .i64 x.sort)).setIfInBounds 14 (.bool x.on)).setIfInBounds 15 (.int .i64 x.n)).setIfInBounds 16 (.string ⟨x.text.toArray⟩)).setIfInBounds 17 (.slice x.a x.list.length x.c)).setIfInBounds 18 (.slice x.ka x.keys.length x.kc) = cdC { c with other := x } := by simp [cdC]
  rw [e] at h1
  exact h1
theorem PmS.fin {k : Nat} {x v : V} {q : Bool} (h : PmS w P d c W) (hq : q = (tellL k x v).isSome) (hk : ∀ y, tellL k x v = some y → c.k = y) (hp : 0 ≤ c.kind) : ParE w P k x v (.returned (.tuple #[.agg (cdC c), .bool q])) (W.setRow (w.heap.size + 2) (cdC c)) := by
  have hc : CallP (W.setRow (w.heap.size + 2) (cdC c)) (QQ w P) c := h.cat.keep fun k hk _ => setRow_far hk.far.2.2
  exact ⟨c, q, rfl, hq, hk, hp, ⟨hc.id.mono fun _ h _ => h.elim (fun h => .inl h.2) (fun h => .inr (by omega)), hc.other.mono fun _ h _ => h.elim (fun h => .inl h.2) (fun h => .inr (by omega)), hc.row, fun g h1 h2 => (hc.blk g h1 h2).elim (fun h => .inl h.2) (fun h => .inr (by omega))⟩, below_row h.below (by omega) _⟩
end
theorem paramsR_end {W : World} {tm : Array Value} {R : Ending → World → Prop} {g : Nat} {c : CD} {u : Value} (h2 : tm.getD 4 undef = .pointer (some ⟨g, 0, none⟩)) (h3 : tm.getD 5 undef = u) (hB : Blk W g (cdC c) 31)
    (hR : R (.returned (.tuple #[.agg (cdC c), u])) W) : bodyPost Tryz.prog Tryz.f63 R .ret { tmps := tm, defers := [] } W := by
  obtain ⟨fs, h1⟩ := docCall_under
  exact bodyPost_ret (v := .tuple #[.agg (cdC c), u]) (results_cell_tmp Tryz.results63 tm W g _ _ _ _ u h2 h3 hB h1 rfl docCall_size) rfl hR
theorem getR_goP (P : Nat → Prop) (d : VD) (pa : Option Addr) (pc : Nat) (p : List Nm) (w : World) (hv : ValAt w P d) (hp : Row w 1 pa p.length (p.map strV)) (hl : p.length ≤ 1048576) (hs : sizeV d.v ≤ 1048576) :
  Calls Tryz.prog 60 #[.agg #[.int .i64 d.sort, .bool d.on, .int .i64 d.n, .string ⟨d.text.toArray⟩, .slice d.a d.list.length d.c, .slice d.ka d.keys.length d.kc], .slice pa p.length pc] w (fun e w' => ∃ (x : VD) (b : Bool), e = .returned (.tuple #[.agg #[.int .i64 x.sort, .bool x.on, .int .i64 x.n, .string ⟨x.text.toArray⟩, .slice x.a x.list.length x.c, .slice x.ka x.keys.length x.kc], .bool b]) ∧ x.v = (getV d.v p).getD V.null ∧ b = (getV d.v p).isSome ∧ ValAt w' P x ∧ Below w.heap.size w w') := by
 have h := getR_anyP P d pa pc p w hv hp hl hs
 rw [VD.val6] at h
 refine h.mono fun e w' h => ?_
 generalize getV d.v p = r at h
 cases r with
 | none => exact ⟨VD.mk 0 false 0 [] none 0 [] none 0 [], false, h.2, rfl, rfl, .leaf, h.1⟩
 | some v =>
  obtain ⟨hb, x, he, hv, ha⟩ := h
  rw [VD.val6] at he
  exact ⟨x, true, he, hv, rfl, ha.ext hb, hb⟩
theorem tlR_name {k : Nat} {x p : V} (hk : k = 6 ∨ k = 8) : tellL k x p = if okT p [kDoc, kUri] = true then some { C.of k x with name := tN p [kDoc, kUri] } else none := by
  rw [tl_name hk, gText_N]; cases okT p [kDoc, kUri] <;> rfl
theorem tlR_4 (x p : V) : tellL 4 x p = if (okT p [kDoc, kUri] && okN p [kDoc, kVersion] && okT p [kDoc, kText]) = true then some { C.of 4 x with name := tN p [kDoc, kUri], version := nN p [kDoc, kVersion], text := tN p [kDoc, kText] } else none := by
  rw [tl_4, gText_N, gNum_N, gText_N]; cases okT p [kDoc, kUri] <;> cases okN p [kDoc, kVersion] <;> cases okT p [kDoc, kText] <;> rfl
theorem tlR_5 (x p : V) : tellL 5 x p = if (okT p [kDoc, kUri] && okN p [kDoc, kVersion] && chsO p) = true then some { C.of 5 x with name := tN p [kDoc, kUri], version := nN p [kDoc, kVersion], changes := chsM p } else none := by
  rw [tl_5, gText_N, gNum_N, chsL_O]; cases okT p [kDoc, kUri] <;> cases okN p [kDoc, kVersion] <;> cases chsO p <;> rfl
theorem tlR_7 (x p : V) : tellL 7 x p = if (okT p [kDoc, kUri] && plO p [kPosition]) = true then some { C.of 7 x with name := tN p [kDoc, kUri], pl := plA p [kPosition], pu := plB p [kPosition] } else none := by
  rw [tl_7, gText_N, gPlace_N]; cases okT p [kDoc, kUri] <;> cases plO p [kPosition] <;> rfl
theorem tlR_9 (x p : V) : tellL 9 x p = if ((getV p [kId]).isSome && idOk ((getV p [kId]).getD .null)) = true then some { C.of 9 x with other := (getV p [kId]).getD .null } else none := by
  rw [tl_9]; cases getV p [kId] <;> rfl
theorem tlR_low {k : Nat} {x p : V} (hk : k ≤ 3) : tellL k x p = some (C.of k x) := by
  unfold tellL; rw [if_pos hk]
set_option maxHeartbeats 8000000 in
set_option maxRecDepth 20000 in
theorem paramsR_1 (P : Nat → Prop) (d x : VD) (w : World) (hv : ValAt w P d) (hx : ValAt w P x) (hs : sizeV d.v ≤ 1048576) :
  Calls Tryz.prog 63 #[.agg (cdC (ofCD 1 x)), .agg #[.int .i64 d.sort, .bool d.on, .int .i64 d.n, .string ⟨d.text.toArray⟩, .slice d.a d.list.length d.c, .slice d.ka d.keys.length d.kc]] w (ParE w P 1 x.v d.v) := by
 obtain ⟨W1, hW1⟩ : ∃ q, q = ((w.alloc (.cells (cdC (ofCD 1 x)) 31)).alloc (.cells #[.int .i64 d.sort, .bool d.on, .int .i64 d.n, .string ⟨d.text.toArray⟩, .slice d.a d.list.length d.c, .slice d.ka d.keys.length d.kc] 26)).alloc (.cells #[.int .i64 0, .int .i64 0, .bool false, .int .i64 0, .string { data := #[] }, .slice none 0 0, .slice none 0 0, .string { data := #[] }, .int .i64 0, .string { data := #[] }, .slice none 0 0, .int .i64 0, .int .i64 0, .int .i64 0, .bool false, .int .i64 0, .string { data := #[] }, .slice none 0 0, .slice none 0 0] 31) := ⟨_, rfl⟩
 have hb : Below w.heap.size w W1 := by rw [hW1]; exact ((below_a1 w _).alloc (by simp) _).alloc (by simp; omega) _
 have HL : Hid (PmS w P d (ofCD 1 x) W1) := Lib.hid ⟨hb, by rw [hW1]; exact ((Blk.new rfl).alloc _).alloc _, by rw [hW1]; exact (Blk.new (by simp)).alloc _, by rw [hW1]; exact Blk.new (by simp), (hv.mono fun _ h1 h => ⟨h, h1⟩).ext hb, (hx.mono fun _ h1 h => .inl ⟨h, h1⟩).ext hb, .leaf, Row.nil _ _ _, fun _ h => by cases h⟩
 have HS := Lib.hid hs
 have c0 : W1.cell? ⟨w.heap.size, 0, none⟩ = some (.int .i64 1) := HL.out.cblk.cell 0
 clear hb hv hx hs
 go_enter Tryz.func63, Tryz.ntmps63
 go_upto_region 1 with (fail)
 rw [← hW1]
 clear hW1
 go_wp2_with (first | ((with_reducible show wpList _ _ _ (⟨some 22, _, _, _, _, _⟩ :: _) _ _); refine load_doc rfl _ rfl w.heap.size rfl (ofCD 1 x) HL.out.cblk ?_) | ((with_reducible show wpList _ _ _ (⟨none, Op.store 31 (Operand.tmp 4) _, _, _, _, _⟩ :: _) _ _); refine store_doc rfl _ _ rfl (w.heap.size + 2) (ofCD 1 x) zeroCD rfl rfl HL.out.rblk ?_))
 exact paramsR_end (g := w.heap.size + 2) rfl rfl (setRow_blk HL.out.rblk) (HL.out.fin (by rw [tlR_low (by decide)]; rfl) (fun y hy => by rw [tlR_low (by decide)] at hy; cases hy; rfl) (by show (0 : Int) ≤ 1; decide))
set_option maxHeartbeats 8000000 in
set_option maxRecDepth 20000 in
theorem paramsR_2 (P : Nat → Prop) (d x : VD) (w : World) (hv : ValAt w P d) (hx : ValAt w P x) (hs : sizeV d.v ≤ 1048576) :
  Calls Tryz.prog 63 #[.agg (cdC (ofCD 2 x)), .agg #[.int .i64 d.sort, .bool d.on, .int .i64 d.n, .string ⟨d.text.toArray⟩, .slice d.a d.list.length d.c, .slice d.ka d.keys.length d.kc]] w (ParE w P 2 x.v d.v) := by
 obtain ⟨W1, hW1⟩ : ∃ q, q = ((w.alloc (.cells (cdC (ofCD 2 x)) 31)).alloc (.cells #[.int .i64 d.sort, .bool d.on, .int .i64 d.n, .string ⟨d.text.toArray⟩, .slice d.a d.list.length d.c, .slice d.ka d.keys.length d.kc] 26)).alloc (.cells #[.int .i64 0, .int .i64 0, .bool false, .int .i64 0, .string { data := #[] }, .slice none 0 0, .slice none 0 0, .string { data := #[] }, .int .i64 0, .string { data := #[] }, .slice none 0 0, .int .i64 0, .int .i64 0, .int .i64 0, .bool false, .int .i64 0, .string { data := #[] }, .slice none 0 0, .slice none 0 0] 31) := ⟨_, rfl⟩
 have hb : Below w.heap.size w W1 := by rw [hW1]; exact ((below_a1 w _).alloc (by simp) _).alloc (by simp; omega) _
 have HL : Hid (PmS w P d (ofCD 2 x) W1) := Lib.hid ⟨hb, by rw [hW1]; exact ((Blk.new rfl).alloc _).alloc _, by rw [hW1]; exact (Blk.new (by simp)).alloc _, by rw [hW1]; exact Blk.new (by simp), (hv.mono fun _ h1 h => ⟨h, h1⟩).ext hb, (hx.mono fun _ h1 h => .inl ⟨h, h1⟩).ext hb, .leaf, Row.nil _ _ _, fun _ h => by cases h⟩
 have HS := Lib.hid hs
 have c0 : W1.cell? ⟨w.heap.size, 0, none⟩ = some (.int .i64 2) := HL.out.cblk.cell 0
 clear hb hv hx hs
 go_enter Tryz.func63, Tryz.ntmps63
 go_upto_region 1 with (fail)
 rw [← hW1]
 clear hW1
 go_wp2_with (first | ((with_reducible show wpList _ _ _ (⟨some 22, _, _, _, _, _⟩ :: _) _ _); refine load_doc rfl _ rfl w.heap.size rfl (ofCD 2 x) HL.out.cblk ?_) | ((with_reducible show wpList _ _ _ (⟨none, Op.store 31 (Operand.tmp 4) _, _, _, _, _⟩ :: _) _ _); refine store_doc rfl _ _ rfl (w.heap.size + 2) (ofCD 2 x) zeroCD rfl rfl HL.out.rblk ?_))
 exact paramsR_end (g := w.heap.size + 2) rfl rfl (setRow_blk HL.out.rblk) (HL.out.fin (by rw [tlR_low (by decide)]; rfl) (fun y hy => by rw [tlR_low (by decide)] at hy; cases hy; rfl) (by show (0 : Int) ≤ 2; decide))
set_option maxHeartbeats 8000000 in
set_option maxRecDepth 20000 in
theorem paramsR_3 (P : Nat → Prop) (d x : VD) (w : World) (hv : ValAt w P d) (hx : ValAt w P x) (hs : sizeV d.v ≤ 1048576) :
  Calls Tryz.prog 63 #[.agg (cdC (ofCD 3 x)), .agg #[.int .i64 d.sort, .bool d.on, .int .i64 d.n, .string ⟨d.text.toArray⟩, .slice d.a d.list.length d.c, .slice d.ka d.keys.length d.kc]] w (ParE w P 3 x.v d.v) := by
 obtain ⟨W1, hW1⟩ : ∃ q, q = ((w.alloc (.cells (cdC (ofCD 3 x)) 31)).alloc (.cells #[.int .i64 d.sort, .bool d.on, .int .i64 d.n, .string ⟨d.text.toArray⟩, .slice d.a d.list.length d.c, .slice d.ka d.keys.length d.kc] 26)).alloc (.cells #[.int .i64 0, .int .i64 0, .bool false, .int .i64 0, .string { data := #[] }, .slice none 0 0, .slice none 0 0, .string { data := #[] }, .int .i64 0, .string { data := #[] }, .slice none 0 0, .int .i64 0, .int .i64 0, .int .i64 0, .bool false, .int .i64 0, .string { data := #[] }, .slice none 0 0, .slice none 0 0] 31) := ⟨_, rfl⟩
 have hb : Below w.heap.size w W1 := by rw [hW1]; exact ((below_a1 w _).alloc (by simp) _).alloc (by simp; omega) _
 have HL : Hid (PmS w P d (ofCD 3 x) W1) := Lib.hid ⟨hb, by rw [hW1]; exact ((Blk.new rfl).alloc _).alloc _, by rw [hW1]; exact (Blk.new (by simp)).alloc _, by rw [hW1]; exact Blk.new (by simp), (hv.mono fun _ h1 h => ⟨h, h1⟩).ext hb, (hx.mono fun _ h1 h => .inl ⟨h, h1⟩).ext hb, .leaf, Row.nil _ _ _, fun _ h => by cases h⟩
 have HS := Lib.hid hs
 have c0 : W1.cell? ⟨w.heap.size, 0, none⟩ = some (.int .i64 3) := HL.out.cblk.cell 0
 clear hb hv hx hs
 go_enter Tryz.func63, Tryz.ntmps63
 go_upto_region 1 with (fail)
 rw [← hW1]
 clear hW1
 go_wp2_with (first | ((with_reducible show wpList _ _ _ (⟨some 22, _, _, _, _, _⟩ :: _) _ _); refine load_doc rfl _ rfl w.heap.size rfl (ofCD 3 x) HL.out.cblk ?_) | ((with_reducible show wpList _ _ _ (⟨none, Op.store 31 (Operand.tmp 4) _, _, _, _, _⟩ :: _) _ _); refine store_doc rfl _ _ rfl (w.heap.size + 2) (ofCD 3 x) zeroCD rfl rfl HL.out.rblk ?_))
 exact paramsR_end (g := w.heap.size + 2) rfl rfl (setRow_blk HL.out.rblk) (HL.out.fin (by rw [tlR_low (by decide)]; rfl) (fun y hy => by rw [tlR_low (by decide)] at hy; cases hy; rfl) (by show (0 : Int) ≤ 3; decide))
set_option maxHeartbeats 8000000 in
set_option maxRecDepth 20000 in
theorem paramsR_6 (P : Nat → Prop) (d x : VD) (w : World) (hv : ValAt w P d) (hx : ValAt w P x) (hs : sizeV d.v ≤ 1048576) :
  Calls Tryz.prog 63 #[.agg (cdC (ofCD 6 x)), .agg #[.int .i64 d.sort, .bool d.on, .int .i64 d.n, .string ⟨d.text.toArray⟩, .slice d.a d.list.length d.c, .slice d.ka d.keys.length d.kc]] w (ParE w P 6 x.v d.v) := by
 obtain ⟨W1, hW1⟩ : ∃ q, q = ((w.alloc (.cells (cdC (ofCD 6 x)) 31)).alloc (.cells #[.int .i64 d.sort, .bool d.on, .int .i64 d.n, .string ⟨d.text.toArray⟩, .slice d.a d.list.length d.c, .slice d.ka d.keys.length d.kc] 26)).alloc (.cells #[.int .i64 0, .int .i64 0, .bool false, .int .i64 0, .string { data := #[] }, .slice none 0 0, .slice none 0 0, .string { data := #[] }, .int .i64 0, .string { data := #[] }, .slice none 0 0, .int .i64 0, .int .i64 0, .int .i64 0, .bool false, .int .i64 0, .string { data := #[] }, .slice none 0 0, .slice none 0 0] 31) := ⟨_, rfl⟩
 have hb : Below w.heap.size w W1 := by rw [hW1]; exact ((below_a1 w _).alloc (by simp) _).alloc (by simp; omega) _
 have HL : Hid (PmS w P d (ofCD 6 x) W1) := Lib.hid ⟨hb, by rw [hW1]; exact ((Blk.new rfl).alloc _).alloc _, by rw [hW1]; exact (Blk.new (by simp)).alloc _, by rw [hW1]; exact Blk.new (by simp), (hv.mono fun _ h1 h => ⟨h, h1⟩).ext hb, (hx.mono fun _ h1 h => .inl ⟨h, h1⟩).ext hb, .leaf, Row.nil _ _ _, fun _ h => by cases h⟩
 have HS := Lib.hid hs
 have c0 : W1.cell? ⟨w.heap.size, 0, none⟩ = some (.int .i64 6) := HL.out.cblk.cell 0
 clear hb hv hx hs
 go_enter Tryz.func63, Tryz.ntmps63
 go_upto_region 1 with (fail)
 rw [← hW1]
 clear hW1
 obtain ⟨p0, p1, p2, p3, p4, p5⟩ := HL.out.pblk.sixT
 go_wp2_with fail
 have h1 := textR_go d (some ⟨W1.heap.size, 0, none⟩) 2 [kDoc, kUri] (W1.alloc (.cells #[strV kDoc, strV kUri] 9)) ((HL.out.val.mono fun _ _ _ => trivial).ext (below_a1 _ _)) (row_blk (Blk.new rfl) rfl) (by simp) HS.out
 refine h1.mono ?_
 clear h1 c0 p0 p1 p2 p3 p4 p5
 rintro e W2 ⟨rfl, hb1⟩
 have hb : Below W1.heap.size W1 W2 := (below_a1 W1 (.cells #[strV kDoc, strV kUri] 9)).trans (hb1.mono (by simp))
 clear hb1
 have HLn : Hid (PmS w P d (ofCD 6 x) W2) := Lib.hid (HL.out.ext hb)
 clear HL hb
 have HL := HLn
 clear HLn
 obtain ⟨s1, hs1⟩ : ∃ q, q = tN d.v [kDoc, kUri] := ⟨_, rfl⟩
 have HS1 := Lib.hid hs1
 obtain ⟨o1, ho1⟩ : ∃ q, q = okT d.v [kDoc, kUri] := ⟨_, rfl⟩
 have HO1 := Lib.hid ho1
 rw [← hs1, ← ho1]
 clear hs1 ho1
 have c7 := HL.out.cblk.cell 7
 have g7 := HL.out.cblk.free 7
 unfold cdC at c7
 simp only [List.getElem?_toArray, List.getElem?_cons_zero, List.getElem?_cons_succ] at c7
 obtain ⟨W3, hQ⟩ : ∃ q, q = W2.setCell ⟨w.heap.size, 7, none⟩ (.string ⟨s1.toArray⟩) := ⟨_, rfl⟩
 have HLn : Hid (PmS w P d ({ ofCD 6 x with name := s1 }) W3) := Lib.hid (by rw [hQ]; exact (HL.out.put 7 (.string ⟨s1.toArray⟩) (c' := { ofCD 6 x with name := s1 }) rfl ⟨HL.out.cat.id, HL.out.cat.other, HL.out.cat.row, HL.out.cat.blk⟩))
 go_upto_region 10 with (fail)
 rw [← hQ]
 clear hQ HL c7 g7
 have HL := HLn
 clear HLn
 have c0 : W3.cell? ⟨w.heap.size, 0, none⟩ = some (.int .i64 6) := HL.out.cblk.cell 0
 go_wp2_with (first | ((with_reducible show wpList _ _ _ (⟨some 113, _, _, _, _, _⟩ :: _) _ _); refine load_doc rfl _ rfl w.heap.size rfl ({ ofCD 6 x with name := s1 }) HL.out.cblk ?_) | ((with_reducible show wpList _ _ _ (⟨none, Op.store 31 (Operand.tmp 4) _, _, _, _, _⟩ :: _) _ _); refine store_doc rfl _ _ rfl (w.heap.size + 2) ({ ofCD 6 x with name := s1 }) zeroCD rfl rfl HL.out.rblk ?_))
 exact paramsR_end (g := w.heap.size + 2) rfl rfl (setRow_blk HL.out.rblk) (HL.out.fin (by rw [tlR_name (by decide), ← HO1.out]; cases o1 <;> rfl) (fun y hy => by rw [tlR_name (by decide), ← HO1.out, ← HS1.out] at hy; cases o1 with | false => cases hy | true => cases hy; rfl) (by show (0 : Int) ≤ 6; decide))
set_option maxHeartbeats 8000000 in
set_option maxRecDepth 20000 in
theorem paramsR_8 (P : Nat → Prop) (d x : VD) (w : World) (hv : ValAt w P d) (hx : ValAt w P x) (hs : sizeV d.v ≤ 1048576) :
  Calls Tryz.prog 63 #[.agg (cdC (ofCD 8 x)), .agg #[.int .i64 d.sort, .bool d.on, .int .i64 d.n, .string ⟨d.text.toArray⟩, .slice d.a d.list.length d.c, .slice d.ka d.keys.length d.kc]] w (ParE w P 8 x.v d.v) := by
 obtain ⟨W1, hW1⟩ : ∃ q, q = ((w.alloc (.cells (cdC (ofCD 8 x)) 31)).alloc (.cells #[.int .i64 d.sort, .bool d.on, .int .i64 d.n, .string ⟨d.text.toArray⟩, .slice d.a d.list.length d.c, .slice d.ka d.keys.length d.kc] 26)).alloc (.cells #[.int .i64 0, .int .i64 0, .bool false, .int .i64 0, .string { data := #[] }, .slice none 0 0, .slice none 0 0, .string { data := #[] }, .int .i64 0, .string { data := #[] }, .slice none 0 0, .int .i64 0, .int .i64 0, .int .i64 0, .bool false, .int .i64 0, .string { data := #[] }, .slice none 0 0, .slice none 0 0] 31) := ⟨_, rfl⟩
 have hb : Below w.heap.size w W1 := by rw [hW1]; exact ((below_a1 w _).alloc (by simp) _).alloc (by simp; omega) _
 have HL : Hid (PmS w P d (ofCD 8 x) W1) := Lib.hid ⟨hb, by rw [hW1]; exact ((Blk.new rfl).alloc _).alloc _, by rw [hW1]; exact (Blk.new (by simp)).alloc _, by rw [hW1]; exact Blk.new (by simp), (hv.mono fun _ h1 h => ⟨h, h1⟩).ext hb, (hx.mono fun _ h1 h => .inl ⟨h, h1⟩).ext hb, .leaf, Row.nil _ _ _, fun _ h => by cases h⟩
 have HS := Lib.hid hs
 have c0 : W1.cell? ⟨w.heap.size, 0, none⟩ = some (.int .i64 8) := HL.out.cblk.cell 0
 clear hb hv hx hs
 go_enter Tryz.func63, Tryz.ntmps63
 go_upto_region 1 with (fail)
 rw [← hW1]
 clear hW1
 obtain ⟨p0, p1, p2, p3, p4, p5⟩ := HL.out.pblk.sixT
 go_wp2_with fail
 have h1 := textR_go d (some ⟨W1.heap.size, 0, none⟩) 2 [kDoc, kUri] (W1.alloc (.cells #[strV kDoc, strV kUri] 9)) ((HL.out.val.mono fun _ _ _ => trivial).ext (below_a1 _ _)) (row_blk (Blk.new rfl) rfl) (by simp) HS.out
 refine h1.mono ?_
 clear h1 c0 p0 p1 p2 p3 p4 p5
 rintro e W2 ⟨rfl, hb1⟩
 have hb : Below W1.heap.size W1 W2 := (below_a1 W1 (.cells #[strV kDoc, strV kUri] 9)).trans (hb1.mono (by simp))
 clear hb1
 have HLn : Hid (PmS w P d (ofCD 8 x) W2) := Lib.hid (HL.out.ext hb)
 clear HL hb
 have HL := HLn
 clear HLn
 obtain ⟨s1, hs1⟩ : ∃ q, q = tN d.v [kDoc, kUri] := ⟨_, rfl⟩
 have HS1 := Lib.hid hs1
 obtain ⟨o1, ho1⟩ : ∃ q, q = okT d.v [kDoc, kUri] := ⟨_, rfl⟩
 have HO1 := Lib.hid ho1
 rw [← hs1, ← ho1]
 clear hs1 ho1
 have c7 := HL.out.cblk.cell 7
 have g7 := HL.out.cblk.free 7
 unfold cdC at c7
 simp only [List.getElem?_toArray, List.getElem?_cons_zero, List.getElem?_cons_succ] at c7
 obtain ⟨W3, hQ⟩ : ∃ q, q = W2.setCell ⟨w.heap.size, 7, none⟩ (.string ⟨s1.toArray⟩) := ⟨_, rfl⟩
 have HLn : Hid (PmS w P d ({ ofCD 8 x with name := s1 }) W3) := Lib.hid (by rw [hQ]; exact (HL.out.put 7 (.string ⟨s1.toArray⟩) (c' := { ofCD 8 x with name := s1 }) rfl ⟨HL.out.cat.id, HL.out.cat.other, HL.out.cat.row, HL.out.cat.blk⟩))
 go_upto_region 10 with (fail)
 rw [← hQ]
 clear hQ HL c7 g7
 have HL := HLn
 clear HLn
 have c0 : W3.cell? ⟨w.heap.size, 0, none⟩ = some (.int .i64 8) := HL.out.cblk.cell 0
 go_wp2_with (first | ((with_reducible show wpList _ _ _ (⟨some 113, _, _, _, _, _⟩ :: _) _ _); refine load_doc rfl _ rfl w.heap.size rfl ({ ofCD 8 x with name := s1 }) HL.out.cblk ?_) | ((with_reducible show wpList _ _ _ (⟨none, Op.store 31 (Operand.tmp 4) _, _, _, _, _⟩ :: _) _ _); refine store_doc rfl _ _ rfl (w.heap.size + 2) ({ ofCD 8 x with name := s1 }) zeroCD rfl rfl HL.out.rblk ?_))
 exact paramsR_end (g := w.heap.size + 2) rfl rfl (setRow_blk HL.out.rblk) (HL.out.fin (by rw [tlR_name (by decide), ← HO1.out]; cases o1 <;> rfl) (fun y hy => by rw [tlR_name (by decide), ← HO1.out, ← HS1.out] at hy; cases o1 with | false => cases hy | true => cases hy; rfl) (by show (0 : Int) ≤ 8; decide))
set_option maxHeartbeats 8000000 in
set_option maxRecDepth 20000 in
theorem paramsR_7 (P : Nat → Prop) (d x : VD) (w : World) (hv : ValAt w P d) (hx : ValAt w P x) (hs : sizeV d.v ≤ 1048576) :
  Calls Tryz.prog 63 #[.agg (cdC (ofCD 7 x)), .agg #[.int .i64 d.sort, .bool d.on, .int .i64 d.n, .string ⟨d.text.toArray⟩, .slice d.a d.list.length d.c, .slice d.ka d.keys.length d.kc]] w (ParE w P 7 x.v d.v) := by
 obtain ⟨W1, hW1⟩ : ∃ q, q = ((w.alloc (.cells (cdC (ofCD 7 x)) 31)).alloc (.cells #[.int .i64 d.sort, .bool d.on, .int .i64 d.n, .string ⟨d.text.toArray⟩, .slice d.a d.list.length d.c, .slice d.ka d.keys.length d.kc] 26)).alloc (.cells #[.int .i64 0, .int .i64 0, .bool false, .int .i64 0, .string { data := #[] }, .slice none 0 0, .slice none 0 0, .string { data := #[] }, .int .i64 0, .string { data := #[] }, .slice none 0 0, .int .i64 0, .int .i64 0, .int .i64 0, .bool false, .int .i64 0, .string { data := #[] }, .slice none 0 0, .slice none 0 0] 31) := ⟨_, rfl⟩
 have hb : Below w.heap.size w W1 := by rw [hW1]; exact ((below_a1 w _).alloc (by simp) _).alloc (by simp; omega) _
 have HL : Hid (PmS w P d (ofCD 7 x) W1) := Lib.hid ⟨hb, by rw [hW1]; exact ((Blk.new rfl).alloc _).alloc _, by rw [hW1]; exact (Blk.new (by simp)).alloc _, by rw [hW1]; exact Blk.new (by simp), (hv.mono fun _ h1 h => ⟨h, h1⟩).ext hb, (hx.mono fun _ h1 h => .inl ⟨h, h1⟩).ext hb, .leaf, Row.nil _ _ _, fun _ h => by cases h⟩
 have HS := Lib.hid hs
 have c0 : W1.cell? ⟨w.heap.size, 0, none⟩ = some (.int .i64 7) := HL.out.cblk.cell 0
 clear hb hv hx hs
 go_enter Tryz.func63, Tryz.ntmps63
 go_upto_region 1 with (fail)
 rw [← hW1]
 clear hW1
 obtain ⟨p0, p1, p2, p3, p4, p5⟩ := HL.out.pblk.sixT
 go_wp2_with fail
 have h1 := textR_go d (some ⟨W1.heap.size, 0, none⟩) 2 [kDoc, kUri] (W1.alloc (.cells #[strV kDoc, strV kUri] 9)) ((HL.out.val.mono fun _ _ _ => trivial).ext (below_a1 _ _)) (row_blk (Blk.new rfl) rfl) (by simp) HS.out
 refine h1.mono ?_
 clear h1 c0 p0 p1 p2 p3 p4 p5
 rintro e W2 ⟨rfl, hb1⟩
 have hb : Below W1.heap.size W1 W2 := (below_a1 W1 (.cells #[strV kDoc, strV kUri] 9)).trans (hb1.mono (by simp))
 clear hb1
 have HLn : Hid (PmS w P d (ofCD 7 x) W2) := Lib.hid (HL.out.ext hb)
 clear HL hb
 have HL := HLn
 clear HLn
 obtain ⟨s1, hs1⟩ : ∃ q, q = tN d.v [kDoc, kUri] := ⟨_, rfl⟩
 have HS1 := Lib.hid hs1
 obtain ⟨o1, ho1⟩ : ∃ q, q = okT d.v [kDoc, kUri] := ⟨_, rfl⟩
 have HO1 := Lib.hid ho1
 rw [← hs1, ← ho1]
 clear hs1 ho1
 have c7 := HL.out.cblk.cell 7
 have g7 := HL.out.cblk.free 7
 unfold cdC at c7
 simp only [List.getElem?_toArray, List.getElem?_cons_zero, List.getElem?_cons_succ] at c7
 obtain ⟨W3, hQ⟩ : ∃ q, q = W2.setCell ⟨w.heap.size, 7, none⟩ (.string ⟨s1.toArray⟩) := ⟨_, rfl⟩
 have HLn : Hid (PmS w P d ({ ofCD 7 x with name := s1 }) W3) := Lib.hid (by rw [hQ]; exact (HL.out.put 7 (.string ⟨s1.toArray⟩) (c' := { ofCD 7 x with name := s1 }) rfl ⟨HL.out.cat.id, HL.out.cat.other, HL.out.cat.row, HL.out.cat.blk⟩))
 go_upto_region 10 with (fail)
 rw [← hQ]
 clear hQ HL c7 g7
 have HL := HLn
 clear HLn
 have c0 : W3.cell? ⟨w.heap.size, 0, none⟩ = some (.int .i64 7) := HL.out.cblk.cell 0
 go_upto_region 23 with (fail)
 obtain ⟨p0, p1, p2, p3, p4, p5⟩ := HL.out.pblk.sixT
 go_wp2_with fail
 have h1 := placeR_any d (some ⟨W3.heap.size, 0, none⟩) 1 [kPosition] (W3.alloc (.cells #[strV kPosition] 9)) ((HL.out.val.mono fun _ _ _ => trivial).ext (below_a1 _ _)) (row_blk (Blk.new rfl) rfl) (by simp) HS.out
 refine h1.mono ?_
 clear h1 c0 p0 p1 p2 p3 p4 p5
 rintro e W4 ⟨rfl, hb1⟩
 have hb : Below W3.heap.size W3 W4 := (below_a1 W3 (.cells #[strV kPosition] 9)).trans (hb1.mono (by simp))
 clear hb1
 have HLn : Hid (PmS w P d ({ ofCD 7 x with name := s1 }) W4) := Lib.hid (HL.out.ext hb)
 clear HL hb
 have HL := HLn
 clear HLn
 obtain ⟨pa, hpa⟩ : ∃ q, q = plA d.v [kPosition] := ⟨_, rfl⟩
 have HPA := Lib.hid hpa
 obtain ⟨pb, hpb⟩ : ∃ q, q = plB d.v [kPosition] := ⟨_, rfl⟩
 have HPB := Lib.hid hpb
 obtain ⟨po, hpo⟩ : ∃ q, q = plO d.v [kPosition] := ⟨_, rfl⟩
 have HPO := Lib.hid hpo
 rw [← hpa, ← hpb, ← hpo]
 clear hpa hpb hpo
 obtain ⟨gp, hg⟩ : ∃ q, q = W4.heap.size := ⟨_, rfl⟩
 obtain ⟨W5, hQ⟩ : ∃ q, q = W4.alloc (.cells #[.int .i64 pa, .int .i64 pb] 29) := ⟨_, rfl⟩
 have hb : Below W4.heap.size W4 W5 := by rw [hQ]; exact below_a1 _ _
 have HLn : Hid (PmS w P d ({ ofCD 7 x with name := s1 }) W5 ∧ Blk W5 gp #[.int .i64 pa, .int .i64 pb] 29) := Lib.hid (⟨HL.out.ext hb, by rw [hQ, hg]; exact Blk.new rfl⟩)
 clear HL hb
 have HL := HLn
 clear HLn
 go_upto_region 24 with (fail)
 rw [← hQ, ← hg]
 clear hQ hg
 obtain ⟨r0, r1⟩ := HL.out.2.twoT
 have HL0 := Lib.hid HL.out.1
 clear HL
 have HL := HL0
 clear HL0
 have c11 := HL.out.cblk.cell 11
 have g11 := HL.out.cblk.free 11
 have c12 := HL.out.cblk.cell 12
 have g12 := HL.out.cblk.free 12
 unfold cdC at c11 c12
 simp only [List.getElem?_toArray, List.getElem?_cons_zero, List.getElem?_cons_succ] at c11 c12
 obtain ⟨W6, hQ⟩ : ∃ q, q = (W5.setCell ⟨w.heap.size, 11, none⟩ (.int .i64 pa)).setCell ⟨w.heap.size, 12, none⟩ (.int .i64 pb) := ⟨_, rfl⟩
 have HLn : Hid (PmS w P d ({ ofCD 7 x with name := s1, pl := pa, pu := pb }) W6) := Lib.hid (by rw [hQ]; exact ((HL.out.put 11 (.int .i64 pa) (c' := { ofCD 7 x with name := s1, pl := pa }) rfl ⟨HL.out.cat.id, HL.out.cat.other, HL.out.cat.row, HL.out.cat.blk⟩).put 12 (.int .i64 pb) (c' := { ofCD 7 x with name := s1, pl := pa, pu := pb }) rfl ⟨(HL.out.put 11 (.int .i64 pa) (c' := { ofCD 7 x with name := s1, pl := pa }) rfl ⟨HL.out.cat.id, HL.out.cat.other, HL.out.cat.row, HL.out.cat.blk⟩).cat.id, (HL.out.put 11 (.int .i64 pa) (c' := { ofCD 7 x with name := s1, pl := pa }) rfl ⟨HL.out.cat.id, HL.out.cat.other, HL.out.cat.row, HL.out.cat.blk⟩).cat.other, (HL.out.put 11 (.int .i64 pa) (c' := { ofCD 7 x with name := s1, pl := pa }) rfl ⟨HL.out.cat.id, HL.out.cat.other, HL.out.cat.row, HL.out.cat.blk⟩).cat.row, (HL.out.put 11 (.int .i64 pa) (c' := { ofCD 7 x with name := s1, pl := pa }) rfl ⟨HL.out.cat.id, HL.out.cat.other, HL.out.cat.row, HL.out.cat.blk⟩).cat.blk⟩))
 go_upto_region 25 with (fail)
 rw [← hQ]
 clear hQ HL c11 g11 c12 g12
 have HL := HLn
 clear HLn
 have c0 : W6.cell? ⟨w.heap.size, 0, none⟩ = some (.int .i64 7) := HL.out.cblk.cell 0
 cases o1 with
 | false =>
  go_wp2_with (first | ((with_reducible show wpList _ _ _ (⟨some 113, _, _, _, _, _⟩ :: _) _ _); refine load_doc rfl _ rfl w.heap.size rfl ({ ofCD 7 x with name := s1, pl := pa, pu := pb }) HL.out.cblk ?_) | ((with_reducible show wpList _ _ _ (⟨none, Op.store 31 (Operand.tmp 4) _, _, _, _, _⟩ :: _) _ _); refine store_doc rfl _ _ rfl (w.heap.size + 2) ({ ofCD 7 x with name := s1, pl := pa, pu := pb }) zeroCD rfl rfl HL.out.rblk ?_))
  exact paramsR_end (g := w.heap.size + 2) rfl rfl (setRow_blk HL.out.rblk) (HL.out.fin (by rw [tlR_7, ← HO1.out, ← HPO.out]; rfl) (fun y hy => by rw [tlR_7, ← HO1.out, ← HPO.out, ← HS1.out, ← HPA.out, ← HPB.out] at hy; cases hy) (by show (0 : Int) ≤ 7; decide))
 | true =>
  go_wp2_with (first | ((with_reducible show wpList _ _ _ (⟨some 113, _, _, _, _, _⟩ :: _) _ _); refine load_doc rfl _ rfl w.heap.size rfl ({ ofCD 7 x with name := s1, pl := pa, pu := pb }) HL.out.cblk ?_) | ((with_reducible show wpList _ _ _ (⟨none, Op.store 31 (Operand.tmp 4) _, _, _, _, _⟩ :: _) _ _); refine store_doc rfl _ _ rfl (w.heap.size + 2) ({ ofCD 7 x with name := s1, pl := pa, pu := pb }) zeroCD rfl rfl HL.out.rblk ?_))
  exact paramsR_end (g := w.heap.size + 2) rfl rfl (setRow_blk HL.out.rblk) (HL.out.fin (by rw [tlR_7, ← HO1.out, ← HPO.out]; cases po <;> rfl) (fun y hy => by rw [tlR_7, ← HO1.out, ← HPO.out, ← HS1.out, ← HPA.out, ← HPB.out] at hy; cases po with | false => cases hy | true => cases hy; rfl) (by show (0 : Int) ≤ 7; decide))
set_option maxHeartbeats 8000000 in
set_option maxRecDepth 20000 in
theorem paramsR_4 (P : Nat → Prop) (d x : VD) (w : World) (hv : ValAt w P d) (hx : ValAt w P x) (hs : sizeV d.v ≤ 1048576) :
  Calls Tryz.prog 63 #[.agg (cdC (ofCD 4 x)), .agg #[.int .i64 d.sort, .bool d.on, .int .i64 d.n, .string ⟨d.text.toArray⟩, .slice d.a d.list.length d.c, .slice d.ka d.keys.length d.kc]] w (ParE w P 4 x.v d.v) := by
 obtain ⟨W1, hW1⟩ : ∃ q, q = ((w.alloc (.cells (cdC (ofCD 4 x)) 31)).alloc (.cells #[.int .i64 d.sort, .bool d.on, .int .i64 d.n, .string ⟨d.text.toArray⟩, .slice d.a d.list.length d.c, .slice d.ka d.keys.length d.kc] 26)).alloc (.cells #[.int .i64 0, .int .i64 0, .bool false, .int .i64 0, .string { data := #[] }, .slice none 0 0, .slice none 0 0, .string { data := #[] }, .int .i64 0, .string { data := #[] }, .slice none 0 0, .int .i64 0, .int .i64 0, .int .i64 0, .bool false, .int .i64 0, .string { data := #[] }, .slice none 0 0, .slice none 0 0] 31) := ⟨_, rfl⟩
 have hb : Below w.heap.size w W1 := by rw [hW1]; exact ((below_a1 w _).alloc (by simp) _).alloc (by simp; omega) _
 have HL : Hid (PmS w P d (ofCD 4 x) W1) := Lib.hid ⟨hb, by rw [hW1]; exact ((Blk.new rfl).alloc _).alloc _, by rw [hW1]; exact (Blk.new (by simp)).alloc _, by rw [hW1]; exact Blk.new (by simp), (hv.mono fun _ h1 h => ⟨h, h1⟩).ext hb, (hx.mono fun _ h1 h => .inl ⟨h, h1⟩).ext hb, .leaf, Row.nil _ _ _, fun _ h => by cases h⟩
 have HS := Lib.hid hs
 have c0 : W1.cell? ⟨w.heap.size, 0, none⟩ = some (.int .i64 4) := HL.out.cblk.cell 0
 clear hb hv hx hs
 go_enter Tryz.func63, Tryz.ntmps63
 go_upto_region 1 with (fail)
 rw [← hW1]
 clear hW1
 obtain ⟨p0, p1, p2, p3, p4, p5⟩ := HL.out.pblk.sixT
 go_wp2_with fail
 have h1 := textR_go d (some ⟨W1.heap.size, 0, none⟩) 2 [kDoc, kUri] (W1.alloc (.cells #[strV kDoc, strV kUri] 9)) ((HL.out.val.mono fun _ _ _ => trivial).ext (below_a1 _ _)) (row_blk (Blk.new rfl) rfl) (by simp) HS.out
 refine h1.mono ?_
 clear h1 c0 p0 p1 p2 p3 p4 p5
 rintro e W2 ⟨rfl, hb1⟩
 have hb : Below W1.heap.size W1 W2 := (below_a1 W1 (.cells #[strV kDoc, strV kUri] 9)).trans (hb1.mono (by simp))
 clear hb1
 have HLn : Hid (PmS w P d (ofCD 4 x) W2) := Lib.hid (HL.out.ext hb)
 clear HL hb
 have HL := HLn
 clear HLn
 obtain ⟨s1, hs1⟩ : ∃ q, q = tN d.v [kDoc, kUri] := ⟨_, rfl⟩
 have HS1 := Lib.hid hs1
 obtain ⟨o1, ho1⟩ : ∃ q, q = okT d.v [kDoc, kUri] := ⟨_, rfl⟩
 have HO1 := Lib.hid ho1
 rw [← hs1, ← ho1]
 clear hs1 ho1
 have c7 := HL.out.cblk.cell 7
 have g7 := HL.out.cblk.free 7
 unfold cdC at c7
 simp only [List.getElem?_toArray, List.getElem?_cons_zero, List.getElem?_cons_succ] at c7
 obtain ⟨W3, hQ⟩ : ∃ q, q = W2.setCell ⟨w.heap.size, 7, none⟩ (.string ⟨s1.toArray⟩) := ⟨_, rfl⟩
 have HLn : Hid (PmS w P d ({ ofCD 4 x with name := s1 }) W3) := Lib.hid (by rw [hQ]; exact (HL.out.put 7 (.string ⟨s1.toArray⟩) (c' := { ofCD 4 x with name := s1 }) rfl ⟨HL.out.cat.id, HL.out.cat.other, HL.out.cat.row, HL.out.cat.blk⟩))
 go_upto_region 10 with (fail)
 rw [← hQ]
 clear hQ HL c7 g7
 have HL := HLn
 clear HLn
 have c0 : W3.cell? ⟨w.heap.size, 0, none⟩ = some (.int .i64 4) := HL.out.cblk.cell 0
 go_upto_region 11 with (fail)
 obtain ⟨p0, p1, p2, p3, p4, p5⟩ := HL.out.pblk.sixT
 go_wp2_with fail
 have h1 := numR_go d (some ⟨W3.heap.size, 0, none⟩) 2 [kDoc, kVersion] (W3.alloc (.cells #[strV kDoc, strV kVersion] 9)) ((HL.out.val.mono fun _ _ _ => trivial).ext (below_a1 _ _)) (row_blk (Blk.new rfl) rfl) (by simp) HS.out
 refine h1.mono ?_
 clear h1 c0 p0 p1 p2 p3 p4 p5
 rintro e W4 ⟨rfl, hb1⟩
 have hb : Below W3.heap.size W3 W4 := (below_a1 W3 (.cells #[strV kDoc, strV kVersion] 9)).trans (hb1.mono (by simp))
 clear hb1
 have HLn : Hid (PmS w P d ({ ofCD 4 x with name := s1 }) W4) := Lib.hid (HL.out.ext hb)
 clear HL hb
 have HL := HLn
 clear HLn
 obtain ⟨n2, hn2⟩ : ∃ q, q = nN d.v [kDoc, kVersion] := ⟨_, rfl⟩
 have HN2 := Lib.hid hn2
 obtain ⟨o2, ho2⟩ : ∃ q, q = okN d.v [kDoc, kVersion] := ⟨_, rfl⟩
 have HO2 := Lib.hid ho2
 rw [← hn2, ← ho2]
 clear hn2 ho2
 have c8 := HL.out.cblk.cell 8
 have g8 := HL.out.cblk.free 8
 unfold cdC at c8
 simp only [List.getElem?_toArray, List.getElem?_cons_zero, List.getElem?_cons_succ] at c8
 obtain ⟨W5, hQ⟩ : ∃ q, q = W4.setCell ⟨w.heap.size, 8, none⟩ (.int .i64 n2) := ⟨_, rfl⟩
 have HLn : Hid (PmS w P d ({ ofCD 4 x with name := s1, version := n2 }) W5) := Lib.hid (by rw [hQ]; exact (HL.out.put 8 (.int .i64 n2) (c' := { ofCD 4 x with name := s1, version := n2 }) rfl ⟨HL.out.cat.id, HL.out.cat.other, HL.out.cat.row, HL.out.cat.blk⟩))
 go_upto_region 13 with (fail)
 rw [← hQ]
 clear hQ HL c8 g8
 have HL := HLn
 clear HLn
 have c0 : W5.cell? ⟨w.heap.size, 0, none⟩ = some (.int .i64 4) := HL.out.cblk.cell 0
 cases o1 with
 | false =>
  go_upto_region 15 with (fail)
  obtain ⟨p0, p1, p2, p3, p4, p5⟩ := HL.out.pblk.sixT
  go_wp2_with fail
  have h1 := textR_go d (some ⟨W5.heap.size, 0, none⟩) 2 [kDoc, kText] (W5.alloc (.cells #[strV kDoc, strV kText] 9)) ((HL.out.val.mono fun _ _ _ => trivial).ext (below_a1 _ _)) (row_blk (Blk.new rfl) rfl) (by simp) HS.out
  refine h1.mono ?_
  clear h1 c0 p0 p1 p2 p3 p4 p5
  rintro e W6 ⟨rfl, hb1⟩
  have hb : Below W5.heap.size W5 W6 := (below_a1 W5 (.cells #[strV kDoc, strV kText] 9)).trans (hb1.mono (by simp))
  clear hb1
  have HLn : Hid (PmS w P d ({ ofCD 4 x with name := s1, version := n2 }) W6) := Lib.hid (HL.out.ext hb)
  clear HL hb
  have HL := HLn
  clear HLn
  obtain ⟨s3, hs3⟩ : ∃ q, q = tN d.v [kDoc, kText] := ⟨_, rfl⟩
  have HS3 := Lib.hid hs3
  obtain ⟨o3, ho3⟩ : ∃ q, q = okT d.v [kDoc, kText] := ⟨_, rfl⟩
  have HO3 := Lib.hid ho3
  rw [← hs3, ← ho3]
  clear hs3 ho3
  have c9 := HL.out.cblk.cell 9
  have g9 := HL.out.cblk.free 9
  unfold cdC at c9
  simp only [List.getElem?_toArray, List.getElem?_cons_zero, List.getElem?_cons_succ] at c9
  obtain ⟨W7, hQ⟩ : ∃ q, q = W6.setCell ⟨w.heap.size, 9, none⟩ (.string ⟨s3.toArray⟩) := ⟨_, rfl⟩
  have HLn : Hid (PmS w P d ({ ofCD 4 x with name := s1, version := n2, text := s3 }) W7) := Lib.hid (by rw [hQ]; exact (HL.out.put 9 (.string ⟨s3.toArray⟩) (c' := { ofCD 4 x with name := s1, version := n2, text := s3 }) rfl ⟨HL.out.cat.id, HL.out.cat.other, HL.out.cat.row, HL.out.cat.blk⟩))
  go_upto_region 17 with (fail)
  rw [← hQ]
  clear hQ HL c9 g9
  have HL := HLn
  clear HLn
  have c0 : W7.cell? ⟨w.heap.size, 0, none⟩ = some (.int .i64 4) := HL.out.cblk.cell 0
  go_wp2_with (first | ((with_reducible show wpList _ _ _ (⟨some 113, _, _, _, _, _⟩ :: _) _ _); refine load_doc rfl _ rfl w.heap.size rfl ({ ofCD 4 x with name := s1, version := n2, text := s3 }) HL.out.cblk ?_) | ((with_reducible show wpList _ _ _ (⟨none, Op.store 31 (Operand.tmp 4) _, _, _, _, _⟩ :: _) _ _); refine store_doc rfl _ _ rfl (w.heap.size + 2) ({ ofCD 4 x with name := s1, version := n2, text := s3 }) zeroCD rfl rfl HL.out.rblk ?_))
  exact paramsR_end (g := w.heap.size + 2) rfl rfl (setRow_blk HL.out.rblk) (HL.out.fin (by rw [tlR_4, ← HO1.out, ← HO2.out, ← HO3.out]; first | rfl | (cases o2 <;> cases o3 <;> rfl) | (cases o3 <;> rfl) | (cases o2 <;> rfl)) (fun y hy => by rw [tlR_4, ← HO1.out, ← HO2.out, ← HO3.out, ← HS1.out, ← HN2.out, ← HS3.out] at hy; first | (cases hy; done) | (cases hy; rfl) | (cases o3 <;> (first | (cases hy; done) | (cases hy; rfl))) | (cases o2 <;> cases o3 <;> (first | (cases hy; done) | (cases hy; rfl)))) (by show (0 : Int) ≤ 4; decide))
 | true =>
  go_upto_region 15 with (fail)
  obtain ⟨p0, p1, p2, p3, p4, p5⟩ := HL.out.pblk.sixT
  go_wp2_with fail
  have h1 := textR_go d (some ⟨W5.heap.size, 0, none⟩) 2 [kDoc, kText] (W5.alloc (.cells #[strV kDoc, strV kText] 9)) ((HL.out.val.mono fun _ _ _ => trivial).ext (below_a1 _ _)) (row_blk (Blk.new rfl) rfl) (by simp) HS.out
  refine h1.mono ?_
  clear h1 c0 p0 p1 p2 p3 p4 p5
  rintro e W8 ⟨rfl, hb1⟩
  have hb : Below W5.heap.size W5 W8 := (below_a1 W5 (.cells #[strV kDoc, strV kText] 9)).trans (hb1.mono (by simp))
  clear hb1
  have HLn : Hid (PmS w P d ({ ofCD 4 x with name := s1, version := n2 }) W8) := Lib.hid (HL.out.ext hb)
  clear HL hb
  have HL := HLn
  clear HLn
  obtain ⟨s3, hs3⟩ : ∃ q, q = tN d.v [kDoc, kText] := ⟨_, rfl⟩
  have HS3 := Lib.hid hs3
  obtain ⟨o3, ho3⟩ : ∃ q, q = okT d.v [kDoc, kText] := ⟨_, rfl⟩
  have HO3 := Lib.hid ho3
  rw [← hs3, ← ho3]
  clear hs3 ho3
  have c9 := HL.out.cblk.cell 9
  have g9 := HL.out.cblk.free 9
  unfold cdC at c9
  simp only [List.getElem?_toArray, List.getElem?_cons_zero, List.getElem?_cons_succ] at c9
  obtain ⟨W9, hQ⟩ : ∃ q, q = W8.setCell ⟨w.heap.size, 9, none⟩ (.string ⟨s3.toArray⟩) := ⟨_, rfl⟩
  have HLn : Hid (PmS w P d ({ ofCD 4 x with name := s1, version := n2, text := s3 }) W9) := Lib.hid (by rw [hQ]; exact (HL.out.put 9 (.string ⟨s3.toArray⟩) (c' := { ofCD 4 x with name := s1, version := n2, text := s3 }) rfl ⟨HL.out.cat.id, HL.out.cat.other, HL.out.cat.row, HL.out.cat.blk⟩))
  go_upto_region 17 with (fail)
  rw [← hQ]
  clear hQ HL c9 g9
  have HL := HLn
  clear HLn
  have c0 : W9.cell? ⟨w.heap.size, 0, none⟩ = some (.int .i64 4) := HL.out.cblk.cell 0
  cases o2 with
  | false =>
   go_wp2_with (first | ((with_reducible show wpList _ _ _ (⟨some 113, _, _, _, _, _⟩ :: _) _ _); refine load_doc rfl _ rfl w.heap.size rfl ({ ofCD 4 x with name := s1, version := n2, text := s3 }) HL.out.cblk ?_) | ((with_reducible show wpList _ _ _ (⟨none, Op.store 31 (Operand.tmp 4) _, _, _, _, _⟩ :: _) _ _); refine store_doc rfl _ _ rfl (w.heap.size + 2) ({ ofCD 4 x with name := s1, version := n2, text := s3 }) zeroCD rfl rfl HL.out.rblk ?_))
   exact paramsR_end (g := w.heap.size + 2) rfl rfl (setRow_blk HL.out.rblk) (HL.out.fin (by rw [tlR_4, ← HO1.out, ← HO2.out, ← HO3.out]; first | rfl | (cases o2 <;> cases o3 <;> rfl) | (cases o3 <;> rfl) | (cases o2 <;> rfl)) (fun y hy => by rw [tlR_4, ← HO1.out, ← HO2.out, ← HO3.out, ← HS1.out, ← HN2.out, ← HS3.out] at hy; first | (cases hy; done) | (cases hy; rfl) | (cases o3 <;> (first | (cases hy; done) | (cases hy; rfl))) | (cases o2 <;> cases o3 <;> (first | (cases hy; done) | (cases hy; rfl)))) (by show (0 : Int) ≤ 4; decide))
  | true =>
   go_wp2_with (first | ((with_reducible show wpList _ _ _ (⟨some 113, _, _, _, _, _⟩ :: _) _ _); refine load_doc rfl _ rfl w.heap.size rfl ({ ofCD 4 x with name := s1, version := n2, text := s3 }) HL.out.cblk ?_) | ((with_reducible show wpList _ _ _ (⟨none, Op.store 31 (Operand.tmp 4) _, _, _, _, _⟩ :: _) _ _); refine store_doc rfl _ _ rfl (w.heap.size + 2) ({ ofCD 4 x with name := s1, version := n2, text := s3 }) zeroCD rfl rfl HL.out.rblk ?_))
   exact paramsR_end (g := w.heap.size + 2) rfl rfl (setRow_blk HL.out.rblk) (HL.out.fin (by rw [tlR_4, ← HO1.out, ← HO2.out, ← HO3.out]; first | rfl | (cases o2 <;> cases o3 <;> rfl) | (cases o3 <;> rfl) | (cases o2 <;> rfl)) (fun y hy => by rw [tlR_4, ← HO1.out, ← HO2.out, ← HO3.out, ← HS1.out, ← HN2.out, ← HS3.out] at hy; first | (cases hy; done) | (cases hy; rfl) | (cases o3 <;> (first | (cases hy; done) | (cases hy; rfl))) | (cases o2 <;> cases o3 <;> (first | (cases hy; done) | (cases hy; rfl)))) (by show (0 : Int) ≤ 4; decide))
set_option maxHeartbeats 8000000 in
set_option maxRecDepth 20000 in
theorem paramsR_5 (P : Nat → Prop) (d x : VD) (w : World) (hv : ValAt w P d) (hx : ValAt w P x) (hs : sizeV d.v ≤ 1048576) :
  Calls Tryz.prog 63 #[.agg (cdC (ofCD 5 x)), .agg #[.int .i64 d.sort, .bool d.on, .int .i64 d.n, .string ⟨d.text.toArray⟩, .slice d.a d.list.length d.c, .slice d.ka d.keys.length d.kc]] w (ParE w P 5 x.v d.v) := by
 obtain ⟨W1, hW1⟩ : ∃ q, q = ((w.alloc (.cells (cdC (ofCD 5 x)) 31)).alloc (.cells #[.int .i64 d.sort, .bool d.on, .int .i64 d.n, .string ⟨d.text.toArray⟩, .slice d.a d.list.length d.c, .slice d.ka d.keys.length d.kc] 26)).alloc (.cells #[.int .i64 0, .int .i64 0, .bool false, .int .i64 0, .string { data := #[] }, .slice none 0 0, .slice none 0 0, .string { data := #[] }, .int .i64 0, .string { data := #[] }, .slice none 0 0, .int .i64 0, .int .i64 0, .int .i64 0, .bool false, .int .i64 0, .string { data := #[] }, .slice none 0 0, .slice none 0 0] 31) := ⟨_, rfl⟩
 have hb : Below w.heap.size w W1 := by rw [hW1]; exact ((below_a1 w _).alloc (by simp) _).alloc (by simp; omega) _
 have HL : Hid (PmS w P d (ofCD 5 x) W1) := Lib.hid ⟨hb, by rw [hW1]; exact ((Blk.new rfl).alloc _).alloc _, by rw [hW1]; exact (Blk.new (by simp)).alloc _, by rw [hW1]; exact Blk.new (by simp), (hv.mono fun _ h1 h => ⟨h, h1⟩).ext hb, (hx.mono fun _ h1 h => .inl ⟨h, h1⟩).ext hb, .leaf, Row.nil _ _ _, fun _ h => by cases h⟩
 have HS := Lib.hid hs
 have c0 : W1.cell? ⟨w.heap.size, 0, none⟩ = some (.int .i64 5) := HL.out.cblk.cell 0
 clear hb hv hx hs
 go_enter Tryz.func63, Tryz.ntmps63
 go_upto_region 1 with (fail)
 rw [← hW1]
 clear hW1
 obtain ⟨p0, p1, p2, p3, p4, p5⟩ := HL.out.pblk.sixT
 go_wp2_with fail
 have h1 := textR_go d (some ⟨W1.heap.size, 0, none⟩) 2 [kDoc, kUri] (W1.alloc (.cells #[strV kDoc, strV kUri] 9)) ((HL.out.val.mono fun _ _ _ => trivial).ext (below_a1 _ _)) (row_blk (Blk.new rfl) rfl) (by simp) HS.out
 refine h1.mono ?_
 clear h1 c0 p0 p1 p2 p3 p4 p5
 rintro e W2 ⟨rfl, hb1⟩
 have hb : Below W1.heap.size W1 W2 := (below_a1 W1 (.cells #[strV kDoc, strV kUri] 9)).trans (hb1.mono (by simp))
 clear hb1
 have HLn : Hid (PmS w P d (ofCD 5 x) W2) := Lib.hid (HL.out.ext hb)
 clear HL hb
 have HL := HLn
 clear HLn
 obtain ⟨s1, hs1⟩ : ∃ q, q = tN d.v [kDoc, kUri] := ⟨_, rfl⟩
 have HS1 := Lib.hid hs1
 obtain ⟨o1, ho1⟩ : ∃ q, q = okT d.v [kDoc, kUri] := ⟨_, rfl⟩
 have HO1 := Lib.hid ho1
 rw [← hs1, ← ho1]
 clear hs1 ho1
 have c7 := HL.out.cblk.cell 7
 have g7 := HL.out.cblk.free 7
 unfold cdC at c7
 simp only [List.getElem?_toArray, List.getElem?_cons_zero, List.getElem?_cons_succ] at c7
 obtain ⟨W3, hQ⟩ : ∃ q, q = W2.setCell ⟨w.heap.size, 7, none⟩ (.string ⟨s1.toArray⟩) := ⟨_, rfl⟩
 have HLn : Hid (PmS w P d ({ ofCD 5 x with name := s1 }) W3) := Lib.hid (by rw [hQ]; exact (HL.out.put 7 (.string ⟨s1.toArray⟩) (c' := { ofCD 5 x with name := s1 }) rfl ⟨HL.out.cat.id, HL.out.cat.other, HL.out.cat.row, HL.out.cat.blk⟩))
 go_upto_region 10 with (fail)
 rw [← hQ]
 clear hQ HL c7 g7
 have HL := HLn
 clear HLn
 have c0 : W3.cell? ⟨w.heap.size, 0, none⟩ = some (.int .i64 5) := HL.out.cblk.cell 0
 go_upto_region 11 with (fail)
 obtain ⟨p0, p1, p2, p3, p4, p5⟩ := HL.out.pblk.sixT
 go_wp2_with fail
 have h1 := numR_go d (some ⟨W3.heap.size, 0, none⟩) 2 [kDoc, kVersion] (W3.alloc (.cells #[strV kDoc, strV kVersion] 9)) ((HL.out.val.mono fun _ _ _ => trivial).ext (below_a1 _ _)) (row_blk (Blk.new rfl) rfl) (by simp) HS.out
 refine h1.mono ?_
 clear h1 c0 p0 p1 p2 p3 p4 p5
 rintro e W4 ⟨rfl, hb1⟩
 have hb : Below W3.heap.size W3 W4 := (below_a1 W3 (.cells #[strV kDoc, strV kVersion] 9)).trans (hb1.mono (by simp))
 clear hb1
 have HLn : Hid (PmS w P d ({ ofCD 5 x with name := s1 }) W4) := Lib.hid (HL.out.ext hb)
 clear HL hb
 have HL := HLn
 clear HLn
 obtain ⟨n2, hn2⟩ : ∃ q, q = nN d.v [kDoc, kVersion] := ⟨_, rfl⟩
 have HN2 := Lib.hid hn2
 obtain ⟨o2, ho2⟩ : ∃ q, q = okN d.v [kDoc, kVersion] := ⟨_, rfl⟩
 have HO2 := Lib.hid ho2
 rw [← hn2, ← ho2]
 clear hn2 ho2
 have c8 := HL.out.cblk.cell 8
 have g8 := HL.out.cblk.free 8
 unfold cdC at c8
 simp only [List.getElem?_toArray, List.getElem?_cons_zero, List.getElem?_cons_succ] at c8
 obtain ⟨W5, hQ⟩ : ∃ q, q = W4.setCell ⟨w.heap.size, 8, none⟩ (.int .i64 n2) := ⟨_, rfl⟩
 have HLn : Hid (PmS w P d ({ ofCD 5 x with name := s1, version := n2 }) W5) := Lib.hid (by rw [hQ]; exact (HL.out.put 8 (.int .i64 n2) (c' := { ofCD 5 x with name := s1, version := n2 }) rfl ⟨HL.out.cat.id, HL.out.cat.other, HL.out.cat.row, HL.out.cat.blk⟩))
 go_upto_region 13 with (fail)
 rw [← hQ]
 clear hQ HL c8 g8
 have HL := HLn
 clear HLn
 have c0 : W5.cell? ⟨w.heap.size, 0, none⟩ = some (.int .i64 5) := HL.out.cblk.cell 0
 cases o1 with
 | false =>
  go_upto_region 19 with (fail)
  obtain ⟨p0, p1, p2, p3, p4, p5⟩ := HL.out.pblk.sixT
  go_wp2_with fail
  refine (changesR_any d W5 (HL.out.val.mono fun _ _ _ => trivial) HS.out).mono ?_
  clear c0 p0 p1 p2 p3 p4 p5
  rintro e W6 ⟨ca, cc, rfl, hown, hb⟩
  have HOW := Lib.hid hown
  have HSZ0 := Lib.hid HL.out.sz
  clear hown
  have HLn : Hid (PmS w P d ({ ofCD 5 x with name := s1, version := n2 }) W6) := Lib.hid (HL.out.ext hb)
  clear HL hb
  have HL := HLn
  clear HLn
  obtain ⟨ch, hch⟩ : ∃ q, q = chsM d.v := ⟨_, rfl⟩
  have HCH := Lib.hid hch
  obtain ⟨o3, ho3⟩ : ∃ q, q = chsO d.v := ⟨_, rfl⟩
  have HO3 := Lib.hid ho3
  rw [← hch] at HOW
  rw [← hch, ← ho3]
  clear hch ho3
  have c10 := HL.out.cblk.cell 10
  have g10 := HL.out.cblk.free 10
  unfold cdC at c10
  simp only [List.getElem?_toArray, List.getElem?_cons_zero, List.getElem?_cons_succ] at c10
  obtain ⟨W7, hQ⟩ : ∃ q, q = W6.setCell ⟨w.heap.size, 10, none⟩ (.slice ca ch.length cc) := ⟨_, rfl⟩
  have HLn : Hid (PmS w P d ({ ofCD 5 x with name := s1, version := n2, changes := ch, a := ca, c := cc }) W7) := Lib.hid (by rw [hQ]; exact (HL.out.put 10 (.slice ca ch.length cc) (c' := { ofCD 5 x with name := s1, version := n2, changes := ch, a := ca, c := cc }) rfl ⟨HL.out.cat.id, HL.out.cat.other, HOW.out.row, fun g _ hg => .inr (by have h1 := HOW.out.base hg; have h2 := HSZ0.out; omega)⟩))
  go_upto_region 21 with (fail)
  rw [← hQ]
  clear hQ HL c10 g10
  have HL := HLn
  clear HLn
  have c0 : W7.cell? ⟨w.heap.size, 0, none⟩ = some (.int .i64 5) := HL.out.cblk.cell 0
  go_wp2_with (first | ((with_reducible show wpList _ _ _ (⟨some 113, _, _, _, _, _⟩ :: _) _ _); refine load_doc rfl _ rfl w.heap.size rfl ({ ofCD 5 x with name := s1, version := n2, changes := ch, a := ca, c := cc }) HL.out.cblk ?_) | ((with_reducible show wpList _ _ _ (⟨none, Op.store 31 (Operand.tmp 4) _, _, _, _, _⟩ :: _) _ _); refine store_doc rfl _ _ rfl (w.heap.size + 2) ({ ofCD 5 x with name := s1, version := n2, changes := ch, a := ca, c := cc }) zeroCD rfl rfl HL.out.rblk ?_))
  exact paramsR_end (g := w.heap.size + 2) rfl rfl (setRow_blk HL.out.rblk) (HL.out.fin (by rw [tlR_5, ← HO1.out, ← HO2.out, ← HO3.out]; first | rfl | (cases o2 <;> cases o3 <;> rfl) | (cases o3 <;> rfl) | (cases o2 <;> rfl)) (fun y hy => by rw [tlR_5, ← HO1.out, ← HO2.out, ← HO3.out, ← HS1.out, ← HN2.out, ← HCH.out] at hy; first | (cases hy; done) | (cases hy; rfl) | (cases o3 <;> (first | (cases hy; done) | (cases hy; rfl))) | (cases o2 <;> cases o3 <;> (first | (cases hy; done) | (cases hy; rfl)))) (by show (0 : Int) ≤ 5; decide))
 | true =>
  go_upto_region 19 with (fail)
  obtain ⟨p0, p1, p2, p3, p4, p5⟩ := HL.out.pblk.sixT
  go_wp2_with fail
  refine (changesR_any d W5 (HL.out.val.mono fun _ _ _ => trivial) HS.out).mono ?_
  clear c0 p0 p1 p2 p3 p4 p5
  rintro e W8 ⟨ca, cc, rfl, hown, hb⟩
  have HOW := Lib.hid hown
  have HSZ0 := Lib.hid HL.out.sz
  clear hown
  have HLn : Hid (PmS w P d ({ ofCD 5 x with name := s1, version := n2 }) W8) := Lib.hid (HL.out.ext hb)
  clear HL hb
  have HL := HLn
  clear HLn
  obtain ⟨ch, hch⟩ : ∃ q, q = chsM d.v := ⟨_, rfl⟩
  have HCH := Lib.hid hch
  obtain ⟨o3, ho3⟩ : ∃ q, q = chsO d.v := ⟨_, rfl⟩
  have HO3 := Lib.hid ho3
  rw [← hch] at HOW
  rw [← hch, ← ho3]
  clear hch ho3
  have c10 := HL.out.cblk.cell 10
  have g10 := HL.out.cblk.free 10
  unfold cdC at c10
  simp only [List.getElem?_toArray, List.getElem?_cons_zero, List.getElem?_cons_succ] at c10
  obtain ⟨W9, hQ⟩ : ∃ q, q = W8.setCell ⟨w.heap.size, 10, none⟩ (.slice ca ch.length cc) := ⟨_, rfl⟩
  have HLn : Hid (PmS w P d ({ ofCD 5 x with name := s1, version := n2, changes := ch, a := ca, c := cc }) W9) := Lib.hid (by rw [hQ]; exact (HL.out.put 10 (.slice ca ch.length cc) (c' := { ofCD 5 x with name := s1, version := n2, changes := ch, a := ca, c := cc }) rfl ⟨HL.out.cat.id, HL.out.cat.other, HOW.out.row, fun g _ hg => .inr (by have h1 := HOW.out.base hg; have h2 := HSZ0.out; omega)⟩))
  go_upto_region 21 with (fail)
  rw [← hQ]
  clear hQ HL c10 g10
  have HL := HLn
  clear HLn
  have c0 : W9.cell? ⟨w.heap.size, 0, none⟩ = some (.int .i64 5) := HL.out.cblk.cell 0
  cases o2 with
  | false =>
   go_wp2_with (first | ((with_reducible show wpList _ _ _ (⟨some 113, _, _, _, _, _⟩ :: _) _ _); refine load_doc rfl _ rfl w.heap.size rfl ({ ofCD 5 x with name := s1, version := n2, changes := ch, a := ca, c := cc }) HL.out.cblk ?_) | ((with_reducible show wpList _ _ _ (⟨none, Op.store 31 (Operand.tmp 4) _, _, _, _, _⟩ :: _) _ _); refine store_doc rfl _ _ rfl (w.heap.size + 2) ({ ofCD 5 x with name := s1, version := n2, changes := ch, a := ca, c := cc }) zeroCD rfl rfl HL.out.rblk ?_))
   exact paramsR_end (g := w.heap.size + 2) rfl rfl (setRow_blk HL.out.rblk) (HL.out.fin (by rw [tlR_5, ← HO1.out, ← HO2.out, ← HO3.out]; first | rfl | (cases o2 <;> cases o3 <;> rfl) | (cases o3 <;> rfl) | (cases o2 <;> rfl)) (fun y hy => by rw [tlR_5, ← HO1.out, ← HO2.out, ← HO3.out, ← HS1.out, ← HN2.out, ← HCH.out] at hy; first | (cases hy; done) | (cases hy; rfl) | (cases o3 <;> (first | (cases hy; done) | (cases hy; rfl))) | (cases o2 <;> cases o3 <;> (first | (cases hy; done) | (cases hy; rfl)))) (by show (0 : Int) ≤ 5; decide))
  | true =>
   go_wp2_with (first | ((with_reducible show wpList _ _ _ (⟨some 113, _, _, _, _, _⟩ :: _) _ _); refine load_doc rfl _ rfl w.heap.size rfl ({ ofCD 5 x with name := s1, version := n2, changes := ch, a := ca, c := cc }) HL.out.cblk ?_) | ((with_reducible show wpList _ _ _ (⟨none, Op.store 31 (Operand.tmp 4) _, _, _, _, _⟩ :: _) _ _); refine store_doc rfl _ _ rfl (w.heap.size + 2) ({ ofCD 5 x with name := s1, version := n2, changes := ch, a := ca, c := cc }) zeroCD rfl rfl HL.out.rblk ?_))
   exact paramsR_end (g := w.heap.size + 2) rfl rfl (setRow_blk HL.out.rblk) (HL.out.fin (by rw [tlR_5, ← HO1.out, ← HO2.out, ← HO3.out]; first | rfl | (cases o2 <;> cases o3 <;> rfl) | (cases o3 <;> rfl) | (cases o2 <;> rfl)) (fun y hy => by rw [tlR_5, ← HO1.out, ← HO2.out, ← HO3.out, ← HS1.out, ← HN2.out, ← HCH.out] at hy; first | (cases hy; done) | (cases hy; rfl) | (cases o3 <;> (first | (cases hy; done) | (cases hy; rfl))) | (cases o2 <;> cases o3 <;> (first | (cases hy; done) | (cases hy; rfl)))) (by show (0 : Int) ≤ 5; decide))
set_option maxHeartbeats 8000000 in
set_option maxRecDepth 20000 in
theorem paramsR_9 (P : Nat → Prop) (d x : VD) (w : World) (hv : ValAt w P d) (hx : ValAt w P x) (hs : sizeV d.v ≤ 1048576) :
  Calls Tryz.prog 63 #[.agg (cdC (ofCD 9 x)), .agg #[.int .i64 d.sort, .bool d.on, .int .i64 d.n, .string ⟨d.text.toArray⟩, .slice d.a d.list.length d.c, .slice d.ka d.keys.length d.kc]] w (ParE w P 9 x.v d.v) := by
 obtain ⟨W1, hW1⟩ : ∃ q, q = ((w.alloc (.cells (cdC (ofCD 9 x)) 31)).alloc (.cells #[.int .i64 d.sort, .bool d.on, .int .i64 d.n, .string ⟨d.text.toArray⟩, .slice d.a d.list.length d.c, .slice d.ka d.keys.length d.kc] 26)).alloc (.cells #[.int .i64 0, .int .i64 0, .bool false, .int .i64 0, .string { data := #[] }, .slice none 0 0, .slice none 0 0, .string { data := #[] }, .int .i64 0, .string { data := #[] }, .slice none 0 0, .int .i64 0, .int .i64 0, .int .i64 0, .bool false, .int .i64 0, .string { data := #[] }, .slice none 0 0, .slice none 0 0] 31) := ⟨_, rfl⟩
 have hb : Below w.heap.size w W1 := by rw [hW1]; exact ((below_a1 w _).alloc (by simp) _).alloc (by simp; omega) _
 have HL : Hid (PmS w P d (ofCD 9 x) W1) := Lib.hid ⟨hb, by rw [hW1]; exact ((Blk.new rfl).alloc _).alloc _, by rw [hW1]; exact (Blk.new (by simp)).alloc _, by rw [hW1]; exact Blk.new (by simp), (hv.mono fun _ h1 h => ⟨h, h1⟩).ext hb, (hx.mono fun _ h1 h => .inl ⟨h, h1⟩).ext hb, .leaf, Row.nil _ _ _, fun _ h => by cases h⟩
 have HS := Lib.hid hs
 have c0 : W1.cell? ⟨w.heap.size, 0, none⟩ = some (.int .i64 9) := HL.out.cblk.cell 0
 clear hb hv hx hs
 go_enter Tryz.func63, Tryz.ntmps63
 go_upto_region 1 with (fail)
 rw [← hW1]
 clear hW1
 go_upto_region 4 with (fail)
 obtain ⟨p0, p1, p2, p3, p4, p5⟩ := HL.out.pblk.sixT
 go_wp2_with fail
 have h1 := getR_goP (QQ w P) d (some ⟨W1.heap.size, 0, none⟩) 1 [kId] (W1.alloc (.cells #[strV kId] 9)) ((HL.out.val.mono fun _ h _ => .inl h).ext (below_a1 _ _)) (row_blk (Blk.new rfl) rfl) (by simp) HS.out
 refine h1.mono ?_
 clear h1 c0 p0 p1 p2 p3 p4 p5
 rintro e W2 ⟨z, b, rfl, hzv, hbv, hza, hb1⟩
 have hb : Below W1.heap.size W1 W2 := (below_a1 W1 (.cells #[strV kId] 9)).trans (hb1.mono (by simp))
 clear hb1
 have HZV := Lib.hid hzv
 have HBV := Lib.hid hbv
 clear hzv hbv
 have HLn : Hid (PmS w P d (ofCD 9 x) W2 ∧ ValAt W2 (QQ w P) z) := Lib.hid (⟨HL.out.ext hb, hza⟩)
 clear HL hb
 have HL := HLn
 clear HLn
 clear hza
 obtain ⟨gz, hg⟩ : ∃ q, q = W2.heap.size := ⟨_, rfl⟩
 obtain ⟨W3, hQ⟩ : ∃ q, q = W2.alloc (.cells #[.int .i64 z.sort, .bool z.on, .int .i64 z.n, .string ⟨z.text.toArray⟩, .slice z.a z.list.length z.c, .slice z.ka z.keys.length z.kc] 26) := ⟨_, rfl⟩
 have hb : Below W2.heap.size W2 W3 := by rw [hQ]; exact below_a1 _ _
 have HLn : Hid (PmS w P d (ofCD 9 x) W3 ∧ ValAt W3 (QQ w P) z ∧ Blk W3 gz #[.int .i64 z.sort, .bool z.on, .int .i64 z.n, .string ⟨z.text.toArray⟩, .slice z.a z.list.length z.c, .slice z.ka z.keys.length z.kc] 26) := Lib.hid (⟨HL.out.1.ext hb, HL.out.2.ext hb, by rw [hQ, hg]; exact Blk.new rfl⟩)
 clear HL hb
 have HL := HLn
 clear HLn
 go_upto_region 5 with (fail)
 rw [← hQ, ← hg]
 clear hQ hg
 obtain ⟨z0, z1, z2, z3, z4, z5⟩ := HL.out.2.2.sixT
 obtain ⟨may, hmay⟩ : ∃ q, q = idOk z.v := ⟨_, rfl⟩
 have HMAY := Lib.hid hmay
 have h1 := idR_any z W3
 rw [VD.val6, ← hmay] at h1
 have H1 := Lib.hid h1
 clear h1 hmay
 go_wp2_with fail
 refine H1.out.mono ?_
 clear H1 z0 z1 z2 z3 z4 z5
 rintro e W4 ⟨rfl, hb⟩
 have HLn : Hid (PmS w P d (ofCD 9 x) W4 ∧ ValAt W4 (QQ w P) z ∧ Blk W4 gz #[.int .i64 z.sort, .bool z.on, .int .i64 z.n, .string ⟨z.text.toArray⟩, .slice z.a z.list.length z.c, .slice z.ka z.keys.length z.kc] 26) := Lib.hid (⟨HL.out.1.ext hb, HL.out.2.1.ext hb, HL.out.2.2.ext hb⟩)
 clear HL hb
 have HL := HLn
 clear HLn
 obtain ⟨z0, z1, z2, z3, z4, z5⟩ := HL.out.2.2.sixT
 have c13 := HL.out.1.cblk.cell 13
 have g13 := HL.out.1.cblk.free 13
 have c14 := HL.out.1.cblk.cell 14
 have g14 := HL.out.1.cblk.free 14
 have c15 := HL.out.1.cblk.cell 15
 have g15 := HL.out.1.cblk.free 15
 have c16 := HL.out.1.cblk.cell 16
 have g16 := HL.out.1.cblk.free 16
 have c17 := HL.out.1.cblk.cell 17
 have g17 := HL.out.1.cblk.free 17
 have c18 := HL.out.1.cblk.cell 18
 have g18 := HL.out.1.cblk.free 18
 unfold cdC at c13 c14 c15 c16 c17 c18
 simp only [List.getElem?_toArray, List.getElem?_cons_zero, List.getElem?_cons_succ] at c13 c14 c15 c16 c17 c18
 obtain ⟨W5, hQ⟩ : ∃ q, q = put6 W4 w.heap.size 13 (.int .i64 z.sort) (.bool z.on) (.int .i64 z.n) (.string ⟨z.text.toArray⟩) (.slice z.a z.list.length z.c) (.slice z.ka z.keys.length z.kc) := ⟨_, rfl⟩
 have HLn : Hid (PmS w P d { ofCD 9 x with other := z } W5) := Lib.hid (by rw [hQ]; exact HL.out.1.other HL.out.2.1)
 unfold put6 at hQ
 go_upto_region 7 with (fail)
 rw [← hQ]
 clear hQ HL z0 z1 z2 z3 z4 z5 c13 g13 c14 g14 c15 g15 c16 g16 c17 g17 c18 g18
 have HL := HLn
 clear HLn
 cases b with
 | false =>
  go_wp2_with (first | ((with_reducible show wpList _ _ _ (⟨some 36, _, _, _, _, _⟩ :: _) _ _); refine load_doc rfl _ rfl w.heap.size rfl ({ ofCD 9 x with other := z }) HL.out.cblk ?_) | ((with_reducible show wpList _ _ _ (⟨none, Op.store 31 (Operand.tmp 4) _, _, _, _, _⟩ :: _) _ _); refine store_doc rfl _ _ rfl (w.heap.size + 2) ({ ofCD 9 x with other := z }) zeroCD rfl rfl HL.out.rblk ?_))
  exact paramsR_end (g := w.heap.size + 2) rfl rfl (setRow_blk HL.out.rblk) (HL.out.fin (by rw [tlR_9, ← HZV.out, ← HBV.out, ← HMAY.out]; first | rfl | (cases may <;> rfl)) (fun y hy => by rw [tlR_9, ← HZV.out, ← HBV.out, ← HMAY.out] at hy; first | (cases hy; done) | (cases may <;> (first | (cases hy; done) | (cases hy; rfl)))) (by show (0 : Int) ≤ 9; decide))
 | true =>
  go_wp2_with (first | ((with_reducible show wpList _ _ _ (⟨some 36, _, _, _, _, _⟩ :: _) _ _); refine load_doc rfl _ rfl w.heap.size rfl ({ ofCD 9 x with other := z }) HL.out.cblk ?_) | ((with_reducible show wpList _ _ _ (⟨none, Op.store 31 (Operand.tmp 4) _, _, _, _, _⟩ :: _) _ _); refine store_doc rfl _ _ rfl (w.heap.size + 2) ({ ofCD 9 x with other := z }) zeroCD rfl rfl HL.out.rblk ?_))
  exact paramsR_end (g := w.heap.size + 2) rfl rfl (setRow_blk HL.out.rblk) (HL.out.fin (by rw [tlR_9, ← HZV.out, ← HBV.out, ← HMAY.out]; first | rfl | (cases may <;> rfl)) (fun y hy => by rw [tlR_9, ← HZV.out, ← HBV.out, ← HMAY.out] at hy; first | (cases hy; done) | (cases may <;> (first | (cases hy; done) | (cases hy; rfl)))) (by show (0 : Int) ≤ 9; decide))
end Go.Proofs.YthnbeebilomchaaGreatDoor

namespace Go.Proofs.YthnbeebilomchaaGreatDoor
open Go Go.RowKit

theorem paramsR_any (P : Nat → Prop) (k : Nat) (h1 : 1 ≤ k) (h9 : k ≤ 9) (d x : VD) (w : World) (hv : ValAt w P d) (hx : ValAt w P x) (hs : sizeV d.v ≤ 1048576) :
    Calls Tryz.prog 63 #[.agg (cdC (ofCD (k : Int) x)), .agg #[.int .i64 d.sort, .bool d.on, .int .i64 d.n, .string ⟨d.text.toArray⟩, .slice d.a d.list.length d.c, .slice d.ka d.keys.length d.kc]] w (ParE w P k x.v d.v) := by
  rcases (show k = 1 ∨ k = 2 ∨ k = 3 ∨ k = 4 ∨ k = 5 ∨ k = 6 ∨ k = 7 ∨ k = 8 ∨ k = 9 by omega) with rfl | rfl | rfl | rfl | rfl | rfl | rfl | rfl | rfl
  · exact paramsR_1 P d x w hv hx hs
  · exact paramsR_2 P d x w hv hx hs
  · exact paramsR_3 P d x w hv hx hs
  · exact paramsR_4 P d x w hv hx hs
  · exact paramsR_5 P d x w hv hx hs
  · exact paramsR_6 P d x w hv hx hs
  · exact paramsR_7 P d x w hv hx hs
  · exact paramsR_8 P d x w hv hx hs
  · exact paramsR_9 P d x w hv hx hs
def badR (v : V) : Bool := (!okT v [kJson]) || tN v [kJson] != v20 || !okT v [kMethod] || ((getV v [kId]).isSome && !idOk (plX v [kId])) || ((getV v [kParams]).isSome && (plX v [kParams]).sort != 5 && (plX v [kParams]).sort != 4)
theorem badR_B (v : V) : badB (gText v [kJson]) (gText v [kMethod]) (getV v [kId]) (getV v [kParams]) = badR v := by
  unfold badB badR plX
  rw [gText_N, gText_N]
  cases okT v [kJson] <;> cases okT v [kMethod] <;> simp
theorem rdR_bad {v : V} (h : badR v = true) : readC v = (42, C.zero) := readC_bad rfl rfl rfl rfl (by rw [badR_B]; exact h)
theorem rdR_good {v : V} (h : badR v = false) : readC v = (match indexK (tN v [kMethod]) methodL with
      | none => (43, C.of 0 (plX v [kId]))
      | some k => if k = 0 ∨ asksN k ≠ (getV v [kId]).isSome then (43, C.of 0 (plX v [kId])) else match tellL k (plX v [kId]) (plX v [kParams]) with
        | none => (44, C.of k (plX v [kId]))
        | some c => (0, c)) := by
  have h1 := readC_good (v := v) rfl rfl rfl rfl (by rw [badR_B]; exact h)
  have h2 : (gText v [kMethod]).getD [] = tN v [kMethod] := by
    rw [gText_N]
    have : okT v [kMethod] = true := by
      cases ho : okT v [kMethod] with
      | true => rfl
      | false => unfold badR at h; rw [ho] at h; simp at h
    rw [this]; rfl
  rw [h2] at h1
  exact h1
theorem rdR_yes {v : V} (h : badR v = false) {k : Nat} (h1 : 1 ≤ k) (h9 : k ≤ 9) (hn : methodN k = tN v [kMethod]) (ha : asksN k = (getV v [kId]).isSome) : readC v = (match tellL k (plX v [kId]) (plX v [kParams]) with
        | none => (44, C.of k (plX v [kId]))
        | some c => (0, c)) := by
  rw [rdR_good h, ← hn]
  have hk := index_method ⟨k, by omega⟩ (by show k ≠ 0; omega)
  simp only at hk
  rw [hk]
  simp only
  rw [if_neg]
  rintro (q | q)
  · omega
  · exact q ha
theorem rdR_no {v : V} (h : badR v = false) (hno : ∀ j, 1 ≤ j → j < 10 → ¬ (methodN j = tN v [kMethod] ∧ asksN j = (getV v [kId]).isSome)) : readC v = (43, C.of 0 (plX v [kId])) := by
  rw [rdR_good h]
  cases hi : indexK (tN v [kMethod]) methodL with
  | none => rfl
  | some k =>
    simp only
    rw [if_pos]
    by_cases h0 : k = 0
    · exact .inl h0
    · refine .inr fun ha => hno k (by omega) (get_lt9 hi) ⟨?_, ha⟩
      have h2 := (indexK_some hi).1
      unfold methodN
      rw [List.getD_eq_getElem?_getD, h2]; rfl
theorem asks_int (k : Nat) : asksN k = (((k : Int) == 1) || ((k : Int) == 2) || ((k : Int) == 7) || ((k : Int) == 8)) := by
  unfold asksN
  rw [Bool.eq_iff_iff]; simp; omega
structure RdR (w : World) (d : VD) (W : World) : Prop where
  below : Below w.heap.size w W
  vblk : Blk W w.heap.size #[.int .i64 d.sort, .bool d.on, .int .i64 d.n, .string ⟨d.text.toArray⟩, .slice d.a d.list.length d.c, .slice d.ka d.keys.length d.kc] 26
  rblk : Blk W (w.heap.size + 1) (cdC zeroCD) 31
  val : ValAt W (fun k => k < w.heap.size) d
theorem RdR.ext {w : World} {d : VD} {W W' : World} (h : RdR w d W) (hb : Below W.heap.size W W') : RdR w d W' := ⟨h.below.trans (hb.mono h.below.size), h.vblk.ext hb, h.rblk.ext hb, h.val.ext hb⟩
theorem readR_end {W : World} {tm : Array Value} {R : Ending → World → Prop} {g : Nat} {c : CD} {u : Value} (h2 : tm.getD 2 undef = .pointer (some ⟨g, 0, none⟩)) (h3 : tm.getD 3 undef = u) (hB : Blk W g (cdC c) 31)
    (hR : R (.returned (.tuple #[.agg (cdC c), u])) W) : bodyPost Tryz.prog Tryz.f35 R .ret { tmps := tm, defers := [] } W := by
  obtain ⟨fs, h1⟩ := docCall_under
  exact bodyPost_ret (v := .tuple #[.agg (cdC c), u]) (results_cell_tmp Tryz.results35 tm W g _ _ _ _ u h2 h3 hB h1 rfl docCall_size) rfl hR
set_option maxHeartbeats 16000000 in
set_option maxRecDepth 20000 in
theorem readR_any (d : VD) (w : World) (hv : ValAt w (fun _ => True) d) (hs : sizeV d.v ≤ 1048576) : Calls Tryz.prog 35 #[.agg #[.int .i64 d.sort, .bool d.on, .int .i64 d.n, .string ⟨d.text.toArray⟩, .slice d.a d.list.length d.c, .slice d.ka d.keys.length d.kc]] w (MsgE w (readC d.v)) := by
  obtain ⟨W1, hW1⟩ : ∃ q, q = (w.alloc (.cells #[.int .i64 d.sort, .bool d.on, .int .i64 d.n, .string ⟨d.text.toArray⟩, .slice d.a d.list.length d.c, .slice d.ka d.keys.length d.kc] 26)).alloc (.cells #[.int .i64 0, .int .i64 0, .bool false, .int .i64 0, .string { data := #[] }, .slice none 0 0, .slice none 0 0, .string { data := #[] }, .int .i64 0, .string { data := #[] }, .slice none 0 0, .int .i64 0, .int .i64 0, .int .i64 0, .bool false, .int .i64 0, .string { data := #[] }, .slice none 0 0, .slice none 0 0] 31) := ⟨_, rfl⟩
  have hb : Below w.heap.size w W1 := by rw [hW1]; exact (below_a1 w _).alloc (by simp) _
  have HL : Hid (RdR w d W1) := Lib.hid ⟨hb, by rw [hW1]; exact (Blk.new rfl).alloc _, by rw [hW1]; exact Blk.new (by simp), (hv.mono fun _ _ h => h).ext hb⟩
  have HS := Lib.hid hs
  clear hb hv hs
  go_enter Tryz.func35, Tryz.ntmps35
  go_upto_region 1 with (fail)
  rw [← hW1]
  clear hW1
  obtain ⟨p0, p1, p2, p3, p4, p5⟩ := HL.out.vblk.sixT
  go_wp2_with fail
  have h1 := textR_go d (some ⟨W1.heap.size, 0, none⟩) 1 [kJson] (W1.alloc (.cells #[strV kJson] 9)) ((HL.out.val.mono fun _ _ _ => trivial).ext (below_a1 _ _)) (row_blk (Blk.new rfl) rfl) (by simp) HS.out
  refine h1.mono ?_
  clear h1 p0 p1 p2 p3 p4 p5
  rintro e W2 ⟨rfl, hb1⟩
  have hb : Below W1.heap.size W1 W2 := (below_a1 W1 (.cells #[strV kJson] 9)).trans (hb1.mono (by simp))
  clear hb1
  have HLn : Hid (RdR w d W2) := Lib.hid (HL.out.ext hb)
  clear HL hb
  have HL := HLn
  clear HLn
  obtain ⟨s1, hs1⟩ : ∃ q, q = tN d.v [kJson] := ⟨_, rfl⟩
  have HS1 := Lib.hid hs1
  obtain ⟨o1, ho1⟩ : ∃ q, q = okT d.v [kJson] := ⟨_, rfl⟩
  have HO1 := Lib.hid ho1
  rw [← hs1, ← ho1]
  clear hs1 ho1
  obtain ⟨p0, p1, p2, p3, p4, p5⟩ := HL.out.vblk.sixT
  go_wp2_with fail
  have h1 := textR_go d (some ⟨W2.heap.size, 0, none⟩) 1 [kMethod] (W2.alloc (.cells #[strV kMethod] 9)) ((HL.out.val.mono fun _ _ _ => trivial).ext (below_a1 _ _)) (row_blk (Blk.new rfl) rfl) (by simp) HS.out
  refine h1.mono ?_
  clear h1 p0 p1 p2 p3 p4 p5
  rintro e W3 ⟨rfl, hb1⟩
  have hb : Below W2.heap.size W2 W3 := (below_a1 W2 (.cells #[strV kMethod] 9)).trans (hb1.mono (by simp))
  clear hb1
  have HLn : Hid (RdR w d W3) := Lib.hid (HL.out.ext hb)
  clear HL hb
  have HL := HLn
  clear HLn
  obtain ⟨s2, hs2⟩ : ∃ q, q = tN d.v [kMethod] := ⟨_, rfl⟩
  have HS2 := Lib.hid hs2
  obtain ⟨o2, ho2⟩ : ∃ q, q = okT d.v [kMethod] := ⟨_, rfl⟩
  have HO2 := Lib.hid ho2
  rw [← hs2, ← ho2]
  clear hs2 ho2
  go_upto_region 3 with (fail)
  obtain ⟨p0, p1, p2, p3, p4, p5⟩ := HL.out.vblk.sixT
  go_wp2_with fail
  have h1 := getR_goP (fun k => k < w.heap.size) d (some ⟨W3.heap.size, 0, none⟩) 1 [kId] (W3.alloc (.cells #[strV kId] 9)) ((HL.out.val.mono fun _ h _ => h).ext (below_a1 _ _)) (row_blk (Blk.new rfl) rfl) (by simp) HS.out
  refine h1.mono ?_
  clear h1 p0 p1 p2 p3 p4 p5
  rintro e W4 ⟨x, asks, rfl, hxv, hbv, hxa, hb1⟩
  have hb : Below W3.heap.size W3 W4 := (below_a1 W3 (.cells #[strV kId] 9)).trans (hb1.mono (by simp))
  clear hb1
  have HXV : Hid (x.v = plX d.v [kId]) := Lib.hid hxv
  have HASKS := Lib.hid hbv
  clear hxv hbv
  have HLn : Hid (RdR w d W4 ∧ ValAt W4 (fun k => k < w.heap.size) x) := Lib.hid (⟨HL.out.ext hb, hxa⟩)
  clear HL hb
  have HL := HLn
  clear HLn
  clear hxa
  obtain ⟨gx, hg⟩ : ∃ q, q = W4.heap.size := ⟨_, rfl⟩
  obtain ⟨W5, hQ⟩ : ∃ q, q = W4.alloc (.cells #[.int .i64 x.sort, .bool x.on, .int .i64 x.n, .string ⟨x.text.toArray⟩, .slice x.a x.list.length x.c, .slice x.ka x.keys.length x.kc] 26) := ⟨_, rfl⟩
  have hb : Below W4.heap.size W4 W5 := by rw [hQ]; exact below_a1 _ _
  have HLn : Hid (RdR w d W5 ∧ ValAt W5 (fun k => k < w.heap.size) x ∧ Blk W5 gx #[.int .i64 x.sort, .bool x.on, .int .i64 x.n, .string ⟨x.text.toArray⟩, .slice x.a x.list.length x.c, .slice x.ka x.keys.length x.kc] 26) := Lib.hid (⟨HL.out.1.ext hb, HL.out.2.ext hb, by rw [hQ, hg]; exact Blk.new rfl⟩)
  clear HL hb
  have HL := HLn
  clear HLn
  go_upto_region 4 with (fail)
  rw [← hQ, ← hg]
  clear hQ hg
  obtain ⟨p0, p1, p2, p3, p4, p5⟩ := HL.out.1.vblk.sixT
  go_wp2_with fail
  have h1 := getR_goP (fun k => k < w.heap.size) d (some ⟨W5.heap.size, 0, none⟩) 1 [kParams] (W5.alloc (.cells #[strV kParams] 9)) ((HL.out.1.val.mono fun _ h _ => h).ext (below_a1 _ _)) (row_blk (Blk.new rfl) rfl) (by simp) HS.out
  refine h1.mono ?_
  clear h1 p0 p1 p2 p3 p4 p5
  rintro e W6 ⟨p, told, rfl, hxv, hbv, hxa, hb1⟩
  have hb : Below W5.heap.size W5 W6 := (below_a1 W5 (.cells #[strV kParams] 9)).trans (hb1.mono (by simp))
  clear hb1
  have HPV : Hid (p.v = plX d.v [kParams]) := Lib.hid hxv
  have HTOLD := Lib.hid hbv
  clear hxv hbv
  have HLn : Hid (RdR w d W6 ∧ ValAt W6 (fun k => k < w.heap.size) x ∧ Blk W6 gx #[.int .i64 x.sort, .bool x.on, .int .i64 x.n, .string ⟨x.text.toArray⟩, .slice x.a x.list.length x.c, .slice x.ka x.keys.length x.kc] 26 ∧ ValAt W6 (fun k => k < w.heap.size) p) := Lib.hid (⟨HL.out.1.ext hb, HL.out.2.1.ext hb, HL.out.2.2.ext hb, hxa⟩)
  clear HL hb
  have HL := HLn
  clear HLn
  clear hxa
  obtain ⟨gp, hg⟩ : ∃ q, q = W6.heap.size := ⟨_, rfl⟩
  obtain ⟨W7, hQ⟩ : ∃ q, q = W6.alloc (.cells #[.int .i64 p.sort, .bool p.on, .int .i64 p.n, .string ⟨p.text.toArray⟩, .slice p.a p.list.length p.c, .slice p.ka p.keys.length p.kc] 26) := ⟨_, rfl⟩
  have hb : Below W6.heap.size W6 W7 := by rw [hQ]; exact below_a1 _ _
  have HLn : Hid (RdR w d W7 ∧ ValAt W7 (fun k => k < w.heap.size) x ∧ Blk W7 gx #[.int .i64 x.sort, .bool x.on, .int .i64 x.n, .string ⟨x.text.toArray⟩, .slice x.a x.list.length x.c, .slice x.ka x.keys.length x.kc] 26 ∧ ValAt W7 (fun k => k < w.heap.size) p ∧ Blk W7 gp #[.int .i64 p.sort, .bool p.on, .int .i64 p.n, .string ⟨p.text.toArray⟩, .slice p.a p.list.length p.c, .slice p.ka p.keys.length p.kc] 26) := Lib.hid (⟨HL.out.1.ext hb, HL.out.2.1.ext hb, HL.out.2.2.1.ext hb, HL.out.2.2.2.ext hb, by rw [hQ, hg]; exact Blk.new rfl⟩)
  clear HL hb
  have HL := HLn
  clear HLn
  go_upto_region 5 with (fail)
  rw [← hQ, ← hg]
  clear hQ hg
  obtain ⟨z0, z1, z2, z3, z4, z5⟩ := HL.out.2.2.1.sixT
  have h1 := idR_any x W7
  obtain ⟨may, hmay⟩ : ∃ q, q = idOk x.v := ⟨_, rfl⟩
  rw [VD.val6, ← hmay] at h1
  have HMAY := Lib.hid hmay
  have H1 := Lib.hid h1
  clear h1 hmay
  go_wp2_with fail
  refine H1.out.mono ?_
  clear H1 z0 z1 z2 z3 z4 z5
  rintro e W8 ⟨rfl, hb⟩
  have HLn : Hid (RdR w d W8 ∧ ValAt W8 (fun k => k < w.heap.size) x ∧ Blk W8 gx #[.int .i64 x.sort, .bool x.on, .int .i64 x.n, .string ⟨x.text.toArray⟩, .slice x.a x.list.length x.c, .slice x.ka x.keys.length x.kc] 26 ∧ ValAt W8 (fun k => k < w.heap.size) p ∧ Blk W8 gp #[.int .i64 p.sort, .bool p.on, .int .i64 p.n, .string ⟨p.text.toArray⟩, .slice p.a p.list.length p.c, .slice p.ka p.keys.length p.kc] 26) := Lib.hid (⟨HL.out.1.ext hb, HL.out.2.1.ext hb, HL.out.2.2.1.ext hb, HL.out.2.2.2.1.ext hb, HL.out.2.2.2.2.ext hb⟩)
  clear HL hb
  have HL := HLn
  clear HLn
  go_upto_region 6 with (fail)
  obtain ⟨bad, hbad⟩ : ∃ q, q = badR d.v := ⟨_, rfl⟩
  have HBAD := Lib.hid hbad
  have HBAD2 : Hid (bad = ((!o1) || s1 != v20 || !o2 || (asks && !may) || (told && p.sort != 5 && p.sort != 4))) := Lib.hid (by rw [hbad]; unfold badR; rw [← HS1.out, ← HO1.out, ← HO2.out, ← HASKS.out, ← HTOLD.out, ← HXV.out, ← HPV.out, HMAY.out, vd_sort])
  clear hbad
  obtain ⟨z0, -, -, -, -, -⟩ := HL.out.2.2.2.2.sixT
  have HB0 : Hid (Below W8.heap.size W8 W8) := Lib.hid (Below.refl _ _)
  go_cut [71] from 42 to 71 (fun u wq => u = .bool bad ∧ Hid (Below W8.heap.size W8 wq))
  case first =>
    cases o1 with
    | false =>
      have HB : Hid (bad = true) := Lib.hid (by rw [HBAD2.out]; simp)
      go_wp2
      go_meet
      exact ⟨by rw [HB.out], HB0⟩
    | true =>
    by_cases hver : s1 = v20
    case neg =>
      have t1 : (s1 == [50, 46, 48]) = false := by simpa [v20] using hver
      have t2 : (s1 != [50, 46, 48]) = true := by simpa using t1
      have HV := Lib.hid hver
      clear hver
      have HB : Hid (bad = true) := Lib.hid (by rw [HBAD2.out]; simp [HV.out])
      go_wp2
      go_meet
      exact ⟨by rw [HB.out], HB0⟩
    subst hver
    unfold v20
    cases o2 with
    | false =>
      have HB : Hid (bad = true) := Lib.hid (by rw [HBAD2.out]; simp)
      go_wp2
      go_meet
      exact ⟨by rw [HB.out], HB0⟩
    | true =>
    cases asks with
    | false =>
      cases told with
      | false =>
        have HB : Hid (bad = false) := Lib.hid (by rw [HBAD2.out]; simp [v20])
        go_wp2
        go_meet
        exact ⟨by rw [HB.out], HB0⟩
      | true =>
        by_cases h5 : p.sort = 5
        · have s5 : (p.sort != 5) = false := by simpa using h5
          have HE5 := Lib.hid h5
          clear h5
          have HB : Hid (bad = false) := Lib.hid (by rw [HBAD2.out]; rw [HE5.out]; simp [v20])
          go_wp2
          go_meet
          exact ⟨by rw [HB.out], HB0⟩
        · have s5 : (p.sort != 5) = true := by simpa using h5
          by_cases h4 : p.sort = 4
          · have s4 : (p.sort != 4) = false := by simpa using h4
            have HE4 := Lib.hid h4
            clear h4 h5
            have HB : Hid (bad = false) := Lib.hid (by rw [HBAD2.out]; rw [HE4.out]; simp [v20])
            go_wp2
            go_meet
            exact ⟨by rw [HB.out], HB0⟩
          · have s4 : (p.sort != 4) = true := by simpa using h4
            have HE4 := Lib.hid (And.intro h5 h4)
            clear h4 h5
            have HB : Hid (bad = true) := Lib.hid (by rw [HBAD2.out]; simp [HE4.out.1, HE4.out.2])
            go_wp2
            go_meet
            exact ⟨by rw [HB.out], HB0⟩
    | true =>
      cases may with
      | false =>
        have HB : Hid (bad = true) := Lib.hid (by rw [HBAD2.out]; simp)
        go_wp2
        go_meet
        exact ⟨by rw [HB.out], HB0⟩
      | true =>
        cases told with
        | false =>
          have HB : Hid (bad = false) := Lib.hid (by rw [HBAD2.out]; simp [v20])
          go_wp2
          go_meet
          exact ⟨by rw [HB.out], HB0⟩
        | true =>
          by_cases h5 : p.sort = 5
          · have s5 : (p.sort != 5) = false := by simpa using h5
            have HE5 := Lib.hid h5
            clear h5
            have HB : Hid (bad = false) := Lib.hid (by rw [HBAD2.out]; rw [HE5.out]; simp [v20])
            go_wp2
            go_meet
            exact ⟨by rw [HB.out], HB0⟩
          · have s5 : (p.sort != 5) = true := by simpa using h5
            by_cases h4 : p.sort = 4
            · have s4 : (p.sort != 4) = false := by simpa using h4
              have HE4 := Lib.hid h4
              clear h4 h5
              have HB : Hid (bad = false) := Lib.hid (by rw [HBAD2.out]; rw [HE4.out]; simp [v20])
              go_wp2
              go_meet
              exact ⟨by rw [HB.out], HB0⟩
            · have s4 : (p.sort != 4) = true := by simpa using h4
              have HE4 := Lib.hid (And.intro h5 h4)
              clear h4 h5
              have HB : Hid (bad = true) := Lib.hid (by rw [HBAD2.out]; simp [HE4.out.1, HE4.out.2])
              go_wp2
              go_meet
              exact ⟨by rw [HB.out], HB0⟩
  case rest =>
  obtain ⟨rfl, HBc⟩ := hcut
  have hb := HBc.out
  clear HBc HB0 z0 HBAD2
  have HLn : Hid (RdR w d wc ∧ ValAt wc (fun k => k < w.heap.size) x ∧ Blk wc gx #[.int .i64 x.sort, .bool x.on, .int .i64 x.n, .string ⟨x.text.toArray⟩, .slice x.a x.list.length x.c, .slice x.ka x.keys.length x.kc] 26 ∧ ValAt wc (fun k => k < w.heap.size) p ∧ Blk wc gp #[.int .i64 p.sort, .bool p.on, .int .i64 p.n, .string ⟨p.text.toArray⟩, .slice p.a p.list.length p.c, .slice p.ka p.keys.length p.kc] 26) := Lib.hid (⟨HL.out.1.ext hb, HL.out.2.1.ext hb, HL.out.2.2.1.ext hb, HL.out.2.2.2.1.ext hb, HL.out.2.2.2.2.ext hb⟩)
  clear HL hb
  have HL := HLn
  clear HLn
  cases bad with
  | true =>
    have HE : Hid (readC d.v = (42, C.zero)) := Lib.hid (rdR_bad HBAD.out.symm)
    go_wp2_with ((with_reducible show wpList _ _ _ (⟨none, Op.store 31 (Operand.tmp 2) _, _, _, _, _⟩ :: _) _ _); refine store_doc rfl _ _ rfl (w.heap.size + 1) (zeroCD) zeroCD rfl rfl HL.out.1.rblk ?_)
    refine readR_end (g := w.heap.size + 1) rfl rfl (setRow_blk HL.out.1.rblk) ?_
    rw [HE.out]
    exact ⟨zeroCD, rfl, ⟨.leaf, .leaf, Row.nil _ _ _⟩, by show (0 : Int) ≤ 0; decide, rfl, below_row HL.out.1.below (by omega) _⟩
  | false =>
  have HG : Hid (badR d.v = false) := Lib.hid HBAD.out.symm
  go_wp2
  go_loopw [13] (fun i wr => ∃ j : Nat, 1 ≤ j ∧ j ≤ 10 ∧ i = .int .i64 j ∧ Hid (∀ q, 1 ≤ q → q < j → ¬ (methodN q = tN d.v [kMethod] ∧ asksN q = (getV d.v [kId]).isSome)) ∧ Hid (RdR w d wr ∧ ValAt wr (fun k => k < w.heap.size) x ∧ Blk wr gx #[.int .i64 x.sort, .bool x.on, .int .i64 x.n, .string ⟨x.text.toArray⟩, .slice x.a x.list.length x.c, .slice x.ka x.keys.length x.kc] 26 ∧ ValAt wr (fun k => k < w.heap.size) p ∧ Blk wr gp #[.int .i64 p.sort, .bool p.on, .int .i64 p.n, .string ⟨p.text.toArray⟩, .slice p.a p.list.length p.c, .slice p.ka p.keys.length p.kc] 26)) (fun i _ => 10 - (intOf i).toNat)
  case atStart => exact ⟨1, Nat.le_refl _, by omega, rfl, Lib.hid (fun q h1 h2 => by omega), HL⟩
  case round =>
    obtain ⟨j, hj1, hj10, rfl, HNO, HR⟩ := hrel
    clear HL
    have HL := HR
    clear HR
    by_cases hj9 : j ≤ 9
    · go_wp2_with fail
      refine (methodR_any j wr (by omega)).mono ?_
      rintro e W10 ⟨rfl, hb⟩
      have HLn : Hid (RdR w d W10 ∧ ValAt W10 (fun k => k < w.heap.size) x ∧ Blk W10 gx #[.int .i64 x.sort, .bool x.on, .int .i64 x.n, .string ⟨x.text.toArray⟩, .slice x.a x.list.length x.c, .slice x.ka x.keys.length x.kc] 26 ∧ ValAt W10 (fun k => k < w.heap.size) p ∧ Blk W10 gp #[.int .i64 p.sort, .bool p.on, .int .i64 p.n, .string ⟨p.text.toArray⟩, .slice p.a p.list.length p.c, .slice p.ka p.keys.length p.kc] 26) := Lib.hid (⟨HL.out.1.ext hb, HL.out.2.1.ext hb, HL.out.2.2.1.ext hb, HL.out.2.2.2.1.ext hb, HL.out.2.2.2.2.ext hb⟩)
      clear HL hb
      have HL := HLn
      clear HLn
      by_cases hm : methodN j = s2
      case neg =>
        have em : (methodN j == s2) = false := by simpa using hm
        have HM := Lib.hid hm
        clear hm
        go_wp2
        go_roundw
        case rel => exact ⟨j + 1, by omega, by omega, by go_num, Lib.hid (fun q h1 h2 => by
          by_cases hq : q = j
          · subst hq; intro h3; exact HM.out (by rw [h3.1, HS2.out])
          · exact HNO.out q h1 (by omega)), HL⟩
        case measure => simp [intOf]; omega
      have em : (methodN j == s2) = true := by simpa using hm
      have HM := Lib.hid hm
      clear hm
      obtain ⟨rq, hrq⟩ : ∃ q, q = ((j : Int) == 1 || (j : Int) == 2 || (j : Int) == 7 || (j : Int) == 8) := ⟨_, rfl⟩
      have hq := requestR_any j W10
      rw [← hrq] at hq
      have HQ := Lib.hid hq
      have HRQ : Hid (rq = asksN j) := Lib.hid (by rw [hrq, asks_int])
      clear hq hrq
      go_wp2_with fail
      refine HQ.out.mono ?_
      clear HQ em
      rintro e W11 ⟨rfl, hb⟩
      have HLn : Hid (RdR w d W11 ∧ ValAt W11 (fun k => k < w.heap.size) x ∧ Blk W11 gx #[.int .i64 x.sort, .bool x.on, .int .i64 x.n, .string ⟨x.text.toArray⟩, .slice x.a x.list.length x.c, .slice x.ka x.keys.length x.kc] 26 ∧ ValAt W11 (fun k => k < w.heap.size) p ∧ Blk W11 gp #[.int .i64 p.sort, .bool p.on, .int .i64 p.n, .string ⟨p.text.toArray⟩, .slice p.a p.list.length p.c, .slice p.ka p.keys.length p.kc] 26) := Lib.hid (⟨HL.out.1.ext hb, HL.out.2.1.ext hb, HL.out.2.2.1.ext hb, HL.out.2.2.2.1.ext hb, HL.out.2.2.2.2.ext hb⟩)
      clear HL hb
      have HL := HLn
      clear HLn
      by_cases ha : rq = asks
      case neg =>
        have ea : (rq == asks) = false := by simpa using ha
        have HA := Lib.hid ha
        clear ha
        go_wp2
        go_roundw
        case rel => exact ⟨j + 1, by omega, by omega, by go_num, Lib.hid (fun q h1 h2 => by
          by_cases hq : q = j
          · subst hq; intro h3; exact HA.out (by rw [HRQ.out, h3.2, HASKS.out])
          · exact HNO.out q h1 (by omega)), HL⟩
        case measure => simp [intOf]; omega
      have ea : (rq == asks) = true := by simpa using ha
      have HYES : Hid (readC d.v = (match tellL j x.v p.v with
              | none => (44, C.of j x.v)
              | some c => (0, c))) := Lib.hid (by rw [HXV.out, HPV.out]; exact rdR_yes HG.out (by omega) (by omega) (by rw [HM.out, HS2.out]) (by rw [← HRQ.out, ha, HASKS.out]))
      have HPS : Hid (sizeV p.v ≤ 1048576) := Lib.hid (by rw [HPV.out]; exact Nat.le_trans (getD_size _ _) HS.out)
      clear ha HNO HM HRQ
      obtain ⟨x0, x1, x2, x3, x4, x5⟩ := HL.out.2.2.1.sixT
      obtain ⟨p0, p1, p2, p3, p4, p5⟩ := HL.out.2.2.2.2.sixT
      have h1 := paramsR_any (fun k => k < w.heap.size) j (by omega) (by omega) p x W11 HL.out.2.2.2.1 HL.out.2.1 HPS.out
      have H1 := Lib.hid h1
      have HWZ : Hid (w.heap.size + 2 ≤ W11.heap.size) := Lib.hid HL.out.1.rblk.lt
      clear h1
      go_wp2_with fail
      refine H1.out.mono ?_
      clear H1 x0 x1 x2 x3 x4 x5 p0 p1 p2 p3 p4 p5 ea
      rintro e W12 ⟨c, ok, rfl, hok, hck, hcp, hca, hb⟩
      have HOK := Lib.hid hok
      have HCK := Lib.hid hck
      have HCP := Lib.hid hcp
      have HLn : Hid (RdR w d W12 ∧ ValAt W12 (fun k => k < w.heap.size) x ∧ Blk W12 gx #[.int .i64 x.sort, .bool x.on, .int .i64 x.n, .string ⟨x.text.toArray⟩, .slice x.a x.list.length x.c, .slice x.ka x.keys.length x.kc] 26 ∧ ValAt W12 (fun k => k < w.heap.size) p ∧ Blk W12 gp #[.int .i64 p.sort, .bool p.on, .int .i64 p.n, .string ⟨p.text.toArray⟩, .slice p.a p.list.length p.c, .slice p.ka p.keys.length p.kc] 26 ∧ CallP W12 (fun k => k ≠ w.heap.size + 1) c) := Lib.hid (⟨HL.out.1.ext hb, HL.out.2.1.ext hb, HL.out.2.2.1.ext hb, HL.out.2.2.2.1.ext hb, HL.out.2.2.2.2.ext hb, ⟨hca.id.mono fun _ h _ => h.elim (fun h => by omega) (fun h => by have := HWZ.out; omega), hca.other.mono fun _ h _ => h.elim (fun h => by omega) (fun h => by have := HWZ.out; omega), hca.row, fun g h1 h2 => (hca.blk g h1 h2).elim (fun h => by omega) (fun h => by have := HWZ.out; omega)⟩⟩)
      clear HL hb
      have HL := HLn
      clear HLn
      clear hok hck hcp hca
      obtain ⟨gc, hg⟩ : ∃ q, q = W12.heap.size := ⟨_, rfl⟩
      obtain ⟨W13, hQ⟩ : ∃ q, q = (W12.alloc (.cells #[.int .i64 0, .int .i64 0, .bool false, .int .i64 0, .string { data := #[] }, .slice none 0 0, .slice none 0 0, .string { data := #[] }, .int .i64 0, .string { data := #[] }, .slice none 0 0, .int .i64 0, .int .i64 0, .int .i64 0, .bool false, .int .i64 0, .string { data := #[] }, .slice none 0 0, .slice none 0 0] 31)).setRow W12.heap.size (cdC c) := ⟨_, rfl⟩
      have hb : Below W12.heap.size W12 W13 := by rw [hQ]; exact below_row (below_a1 _ _) (Nat.le_refl _) _
      have HLn : Hid (RdR w d W13 ∧ ValAt W13 (fun k => k < w.heap.size) x ∧ Blk W13 gx #[.int .i64 x.sort, .bool x.on, .int .i64 x.n, .string ⟨x.text.toArray⟩, .slice x.a x.list.length x.c, .slice x.ka x.keys.length x.kc] 26 ∧ ValAt W13 (fun k => k < w.heap.size) p ∧ Blk W13 gp #[.int .i64 p.sort, .bool p.on, .int .i64 p.n, .string ⟨p.text.toArray⟩, .slice p.a p.list.length p.c, .slice p.ka p.keys.length p.kc] 26 ∧ CallP W13 (fun k => k ≠ w.heap.size + 1) c ∧ Blk W13 gc (cdC c) 31) := Lib.hid (⟨HL.out.1.ext hb, HL.out.2.1.ext hb, HL.out.2.2.1.ext hb, HL.out.2.2.2.1.ext hb, HL.out.2.2.2.2.1.ext hb, HL.out.2.2.2.2.2.keep fun k _ hk => hb.block k hk, by rw [hQ, hg]; exact setRow_blk (cur := #[.int .i64 0, .int .i64 0, .bool false, .int .i64 0, .string { data := #[] }, .slice none 0 0, .slice none 0 0, .string { data := #[] }, .int .i64 0, .string { data := #[] }, .slice none 0 0, .int .i64 0, .int .i64 0, .int .i64 0, .bool false, .int .i64 0, .string { data := #[] }, .slice none 0 0, .slice none 0 0]) (Blk.new rfl)⟩)
      clear HL hb
      have HL := HLn
      clear HLn
      go_upto_region 13 with ((with_reducible show wpList _ _ _ (⟨none, Op.store 31 (Operand.tmp 14) _, _, _, _, _⟩ :: _) _ _); refine store_doc rfl _ _ rfl W12.heap.size c zeroCD rfl rfl (Blk.new rfl) ?_; rw [← hQ, ← hg]; clear hQ hg)
      obtain ⟨x0, x1, x2, x3, x4, x5⟩ := HL.out.2.2.1.sixT
      cases ok with
      | false =>
        have HE : Hid (readC d.v = (44, C.of j x.v)) := Lib.hid (by
          rw [HYES.out]
          cases ht : tellL j x.v p.v with
          | none => rfl
          | some y => have := HOK.out; rw [ht] at this; cases this)
        go_wp2_with ((with_reducible show wpList _ _ _ (⟨none, Op.store 31 (Operand.tmp 2) _, _, _, _, _⟩ :: _) _ _); refine store_doc rfl _ _ rfl (w.heap.size + 1) (ofCD (j : Int) x) zeroCD rfl rfl HL.out.1.rblk ?_)
        refine readR_end (g := w.heap.size + 1) rfl rfl (setRow_blk HL.out.1.rblk) ?_
        rw [HE.out]
        exact ⟨ofCD (j : Int) x, rfl, ⟨(HL.out.2.1.congr fun g h1 _ => setRow_far (by omega)).mono fun _ _ _ => trivial, .leaf, Row.nil _ _ _⟩, by show (0 : Int) ≤ (j : Int); omega, by unfold CD.k ofCD C.of; simp [C.zero, zeroCD]; rfl, below_row HL.out.1.below (by omega) _⟩
      | true =>
        obtain ⟨y, hy⟩ : ∃ y, tellL j x.v p.v = some y := by
          cases ht : tellL j x.v p.v with
          | none => have := HOK.out; rw [ht] at this; cases this
          | some y => exact ⟨y, rfl⟩
        have HE : Hid (readC d.v = (0, y)) := Lib.hid (by rw [HYES.out, hy])
        have HY := Lib.hid (HCK.out y hy)
        clear hy
        go_wp2_with (first | ((with_reducible show wpList _ _ _ (⟨some 100, _, _, _, _, _⟩ :: _) _ _); refine load_doc rfl _ rfl gc rfl c HL.out.2.2.2.2.2.2 ?_) | ((with_reducible show wpList _ _ _ (⟨none, Op.store 31 (Operand.tmp 2) _, _, _, _, _⟩ :: _) _ _); refine store_doc rfl _ _ rfl (w.heap.size + 1) (c) zeroCD rfl rfl HL.out.1.rblk ?_))
        refine readR_end (g := w.heap.size + 1) rfl rfl (setRow_blk HL.out.1.rblk) ?_
        rw [HE.out]
        exact ⟨c, rfl, ⟨(HL.out.2.2.2.2.2.1.id.congr fun g h1 _ => setRow_far h1).mono fun _ _ _ => trivial, (HL.out.2.2.2.2.2.1.other.congr fun g h1 _ => setRow_far h1).mono fun _ _ _ => trivial, HL.out.2.2.2.2.2.1.row.congr fun g h0 h1 _ => setRow_far (HL.out.2.2.2.2.2.1.blk g (Nat.pos_of_mul_pos_right h0) h1)⟩, HCP.out, HY.out, below_row HL.out.1.below (by omega) _⟩
    · obtain rfl : j = 10 := by omega
      obtain ⟨x0, x1, x2, x3, x4, x5⟩ := HL.out.2.2.1.sixT
      have HE : Hid (readC d.v = (43, C.of 0 x.v)) := Lib.hid (by rw [HXV.out]; exact rdR_no HG.out (fun q h1 h2 => HNO.out q h1 (by omega)))
      go_wp2_with ((with_reducible show wpList _ _ _ (⟨none, Op.store 31 (Operand.tmp 2) _, _, _, _, _⟩ :: _) _ _); refine store_doc rfl _ _ rfl (w.heap.size + 1) (ofCD 0 x) zeroCD rfl rfl HL.out.1.rblk ?_)
      refine readR_end (g := w.heap.size + 1) rfl rfl (setRow_blk HL.out.1.rblk) ?_
      rw [HE.out]
      exact ⟨ofCD 0 x, rfl, ⟨(HL.out.2.1.congr fun g h1 _ => setRow_far (by omega)).mono fun _ _ _ => trivial, .leaf, Row.nil _ _ _⟩, by show (0 : Int) ≤ 0; decide, rfl, below_row HL.out.1.below (by omega) _⟩
end Go.Proofs.YthnbeebilomchaaGreatDoor

namespace Go.Proofs.YthnbeebilomchaaGreatDoor
open Go Go.RowKit

def KeyS (P : Nat → Prop) (x : Value) (keys : List Nm) (W : World) : Prop := ∃ g, x = .slice (some ⟨g, 0, none⟩) keys.length keys.length ∧ P g ∧ Blk W g (keys.map strV).toArray 9
def LstS (P : Nat → Prop) (x : Value) (vs : List V) (W : World) : Prop := ∃ (g : Nat) (ys : List VD), x = .slice (some ⟨g, 0, none⟩) ys.length ys.length ∧ P g ∧ Blk W g (ys.flatMap VD.cells).toArray 26 ∧ ys.map VD.v = vs ∧ ∀ y ∈ ys, ValAt W P y
theorem KeyS.ext {P : Nat → Prop} {x : Value} {keys : List Nm} {W W' : World} (h : KeyS P x keys W) (hb : Below W.heap.size W W') : KeyS P x keys W' := by
  obtain ⟨g, h1, h2, h3⟩ := h
  exact ⟨g, h1, h2, h3.ext hb⟩
theorem KeyS.mono {P Q : Nat → Prop} {x : Value} {keys : List Nm} {W : World} (h : KeyS P x keys W) (hp : ∀ g, P g → g < W.heap.size → Q g) : KeyS Q x keys W := by
  obtain ⟨g, h1, h2, h3⟩ := h
  exact ⟨g, h1, hp g h2 h3.lt, h3⟩
theorem LstS.ext {P : Nat → Prop} {x : Value} {vs : List V} {W W' : World} (h : LstS P x vs W) (hb : Below W.heap.size W W') : LstS P x vs W' := by
  obtain ⟨g, ys, h1, h2, h3, h4, h5⟩ := h
  exact ⟨g, ys, h1, h2, h3.ext hb, h4, fun y hy => (h5 y hy).ext hb⟩
theorem LstS.mono {P Q : Nat → Prop} {x : Value} {vs : List V} {W : World} (h : LstS P x vs W) (hp : ∀ g, P g → g < W.heap.size → Q g) : LstS Q x vs W := by
  obtain ⟨g, ys, h1, h2, h3, h4, h5⟩ := h
  exact ⟨g, ys, h1, hp g h2 h3.lt, h3, h4, fun y hy => (h5 y hy).mono hp⟩
def recD (gk gl : Nat) (keys : List Nm) (ys : List VD) (n m : Nat) : VD := .mk 5 false 0 [] (some ⟨gl, 0, none⟩) n ys (some ⟨gk, 0, none⟩) m keys
theorem recD_at {P : Nat → Prop} {W : World} {gk gl : Nat} {keys : List Nm} {ys : List VD} {n m : Nat} (hk : Blk W gk (keys.map strV).toArray 9) (hl : Blk W gl (ys.flatMap VD.cells).toArray 26) (pk : P gk) (pl : P gl) (hv : ∀ y ∈ ys, ValAt W P y) : ValAt W P (recD gk gl keys ys n m) :=
  .mk (row_blk hl (flat_length VD.cells 6 VD.len _)) (row_blk hk (by simp)) (fun g _ hg => by have : gl = g := by simpa [blockOf] using hg
                                                                                              exact this ▸ pl) (fun g _ hg => by have : gk = g := by simpa [blockOf] using hg
                                                                                                                                 exact this ▸ pk) hv
theorem recD_v (gk gl : Nat) (keys : List Nm) (ys : List VD) (n m : Nat) : (recD gk gl keys ys n m).v = .mk 5 false 0 [] (ys.map VD.v) keys := by first | (rw [VD.v_eq]; done) | (rw [VD.v_eq]; rfl)
def BoxV (W : World) (P : Nat → Prop) (g : Nat) (v : V) : Prop := ∃ y : VD, y.v = v ∧ Blk W g #[.int .i64 y.sort, .bool y.on, .int .i64 y.n, .string ⟨y.text.toArray⟩, .slice y.a y.list.length y.c, .slice y.ka y.keys.length y.kc] 26 ∧ ValAt W P y
def N8 (B : Nat) (d9 : Bool) (s7 : Value) (k : Nat) : Prop := B ≤ k ∧ (d9 = true → s7 ≠ .pointer (some ⟨k, 0, none⟩))
def rangeW (e : E) : V := recW [(kStart, atW e.fl e.fu), (kEnd, atW e.tl e.tu)]
structure R8 (W8 : World) (e : E) (D : Nat → Bool) (s : Nat → Value) (W : World) : Prop where
  below : Below W8.heap.size W8 W
  s32 : D 0 = true → D 10 = false → KeyS (N8 W8.heap.size (D 9) (s 7)) (s 32) [kStart, kEnd] W
  s35 : D 3 = true → D 10 = false → CopyS (s 35) (atW e.fl e.fu) (N8 W8.heap.size (D 9) (s 7)) W
  s38 : D 6 = true → D 10 = false → CopyS (s 38) (atW e.tl e.tu) (N8 W8.heap.size (D 9) (s 7)) W
  s39 : D 7 = true → D 10 = false → LstS (N8 W8.heap.size (D 9) (s 7)) (s 39) [atW e.fl e.fu, atW e.tl e.tu] W
  s40 : D 8 = true → D 10 = false → CopyS (s 40) (rangeW e) (N8 W8.heap.size (D 9) (s 7)) W
  s7 : D 9 = true → ∃ g, s 7 = .pointer (some ⟨g, 0, none⟩) ∧ W8.heap.size ≤ g ∧ (D 10 = false → Blk W g #[.int .i64 0, .bool false, .int .i64 0, .string { data := #[] }, .slice none 0 0, .slice none 0 0] 26) ∧ (D 10 = true → BoxV W (fun k => W8.heap.size ≤ k ∧ k ≠ g) g (rangeW e))
section
variable {W8 : World} {e : E} {D : Nat → Bool} {s : Nat → Value} {W W' : World}
theorem R8.start (hb : Below W8.heap.size W8 W) (d0 : D 0 = false) (d3 : D 3 = false) (d6 : D 6 = false) (d7 : D 7 = false) (d8 : D 8 = false) (d9 : D 9 = false) : R8 W8 e D s W :=
  ⟨hb, fun h => (by rw [d0] at h; cases h), fun h => (by rw [d3] at h; cases h), fun h => (by rw [d6] at h; cases h), fun h => (by rw [d7] at h; cases h), fun h => (by rw [d8] at h; cases h), fun h => (by rw [d9] at h; cases h)⟩
theorem R8.ext (h : R8 W8 e D s W) (hb : Below W.heap.size W W') : R8 W8 e D s W' :=
  ⟨h.below.trans (hb.mono h.below.size), fun a b => (h.s32 a b).ext hb, fun a b => (h.s35 a b).ext hb, fun a b => (h.s38 a b).ext hb, fun a b => (h.s39 a b).ext hb, fun a b => (h.s40 a b).ext hb, fun a => by
    obtain ⟨g, h1, h2, h3, h4⟩ := h.s7 a
    exact ⟨g, h1, h2, fun q => (h3 q).ext hb, fun q => by
      obtain ⟨y, y1, y2, y3⟩ := h4 q
      exact ⟨y, y1, y2.ext hb, y3.ext hb⟩⟩⟩
theorem R8.nb (h : R8 W8 e D s W) (d : D 10 = false) {k : Nat} (hk : W.heap.size ≤ k) : N8 W8.heap.size (D 9) (s 7) k := by
  refine ⟨by have := h.below.size; omega, fun h5 q => ?_⟩
  obtain ⟨g, h1, -, h3, -⟩ := h.s7 h5
  rw [h1] at q
  have := ptr_inj q
  have := (h3 d).lt
  omega
theorem R8.op0 (h : R8 W8 e D s W) (d : D 10 = false) : R8 W8 e (updD D 0) (updS s (some 32) (.slice (some ⟨W.heap.size, 0, none⟩) 2 2)) (W.alloc (.cells #[strV kStart, strV kEnd] 9)) :=
  { h.ext (below_a1 W _) with s32 := fun _ _ => ⟨W.heap.size, rfl, h.nb d (Nat.le_refl _), Blk.new rfl⟩ }
theorem R8.op3 (h : R8 W8 e D s W) (hb : Below W.heap.size W W') {x : Value} (hx : CopyS x (atW e.fl e.fu) (N8 W8.heap.size (D 9) (s 7)) W') : R8 W8 e (updD D 3) (updS s (some 35) x) W' := { h.ext hb with s35 := fun _ _ => hx }
theorem R8.op6 (h : R8 W8 e D s W) (hb : Below W.heap.size W W') {x : Value} (hx : CopyS x (atW e.tl e.tu) (N8 W8.heap.size (D 9) (s 7)) W') : R8 W8 e (updD D 6) (updS s (some 38) x) W' := { h.ext hb with s38 := fun _ _ => hx }
theorem R8.op7 (h : R8 W8 e D s W) (d : D 10 = false) {x y : VD} (hx : ValAt W (N8 W8.heap.size (D 9) (s 7)) x) (hy : ValAt W (N8 W8.heap.size (D 9) (s 7)) y) (ex : x.v = atW e.fl e.fu) (ey : y.v = atW e.tl e.tu) :
    R8 W8 e (updD D 7) (updS s (some 39) (.slice (some ⟨W.heap.size, 0, none⟩) 2 2)) (W.alloc (.cells (x.cells ++ y.cells).toArray 26)) :=
  { h.ext (below_a1 W _) with s39 := fun _ _ => ⟨W.heap.size, [x, y], rfl, h.nb d (Nat.le_refl _), by simp only [List.flatMap_cons, List.flatMap_nil, List.append_nil]; exact Blk.new rfl, by simp [ex, ey], fun z hz => by
      simp only [List.mem_cons, List.mem_nil_iff, or_false] at hz
      rcases hz with rfl | rfl
      · exact hx.ext (below_a1 W _)
      · exact hy.ext (below_a1 W _)⟩ }
theorem R8.op8 (h : R8 W8 e D s W) (hb : Below W.heap.size W W') {x : Value} (hx : CopyS x (rangeW e) (N8 W8.heap.size (D 9) (s 7)) W') : R8 W8 e (updD D 8) (updS s (some 40) x) W' := { h.ext hb with s40 := fun _ _ => hx }
theorem R8.op9 (h : R8 W8 e D s W) (d : D 10 = false) : R8 W8 e (updD D 9) (updS s (some 7) (.pointer (some ⟨W.heap.size, 0, none⟩))) (W.alloc (.cells #[.int .i64 0, .bool false, .int .i64 0, .string { data := #[] }, .slice none 0 0, .slice none 0 0] 26)) := by
 have hb := below_a1 W (.cells #[.int .i64 0, .bool false, .int .i64 0, .string { data := #[] }, .slice none 0 0, .slice none 0 0] 26)
 have hn : ∀ g, N8 W8.heap.size (D 9) (s 7) g → g < W.heap.size → N8 W8.heap.size true (.pointer (some ⟨W.heap.size, 0, none⟩)) g := fun g h1 hg => ⟨h1.1, fun _ q => by have := ptr_inj q; omega⟩
 exact ⟨h.below.trans (hb.mono h.below.size), fun a b => ((h.s32 a b).mono hn).ext hb, fun a b => ((h.s35 a b).mono hn).ext hb, fun a b => ((h.s38 a b).mono hn).ext hb, fun a b => ((h.s39 a b).mono hn).ext hb, fun a b => ((h.s40 a b).mono hn).ext hb,
  fun _ => ⟨W.heap.size, rfl, h.below.size, fun _ => Blk.new rfl, fun q => by rw [show updD D 9 10 = D 10 from rfl, d] at q; cases q⟩⟩
theorem R8.op10 (h : R8 W8 e D s W) {g : Nat} {y : VD} (h7 : s 7 = .pointer (some ⟨g, 0, none⟩)) (hg : W8.heap.size ≤ g) (hB : Blk W g #[.int .i64 0, .bool false, .int .i64 0, .string { data := #[] }, .slice none 0 0, .slice none 0 0] 26) (hv : y.v = rangeW e) (ha : ValAt W (N8 W8.heap.size (D 9) (s 7)) y) (d9 : D 9 = true) : R8 W8 e (updD D 10) (updS s none undef) (put6 W g 0 (.int .i64 y.sort) (.bool y.on) (.int .i64 y.n) (.string ⟨y.text.toArray⟩) (.slice y.a y.list.length y.c) (.slice y.ka y.keys.length y.kc)) := by
 have hb : Below W8.heap.size W (put6 W g 0 (.int .i64 y.sort) (.bool y.on) (.int .i64 y.n) (.string ⟨y.text.toArray⟩) (.slice y.a y.list.length y.c) (.slice y.ka y.keys.length y.kc)) := put6_below (Below.refl _ _) hg
 have hne : ∀ k, N8 W8.heap.size (D 9) (s 7) k → k ≠ g := fun k hk q => hk.2 d9 (by rw [h7, q])
 refine ⟨h.below.trans hb, fun _ q => (by rw [updD_self] at q; cases q), fun _ q => (by rw [updD_self] at q; cases q), fun _ q => (by rw [updD_self] at q; cases q), fun _ q => (by rw [updD_self] at q; cases q), fun _ q => (by rw [updD_self] at q; cases q), fun _ => ⟨g, h7, hg, fun q => (by rw [updD_self] at q; cases q), fun _ => ⟨y, hv, store6T hB, ?_⟩⟩⟩
 exact (ha.congr fun k hk _ => put6_other (hne k hk)).mono fun k hk _ => ⟨hk.1, hne k hk⟩
theorem R8.ends (h : R8 W8 e D s W) (d9 : D 9 = true) (d : D 10 = true) : ∃ g, s 7 = .pointer (some ⟨g, 0, none⟩) ∧ W8.heap.size ≤ g ∧ BoxV W (fun k => W8.heap.size ≤ k ∧ k ≠ g) g (rangeW e) := by
  obtain ⟨g, h1, h2, -, h4⟩ := h.s7 d9
  exact ⟨g, h1, h2, h4 d⟩
end
structure R9 (W9 : World) (P : Nat → Prop) (gv : Nat) (keys : List Nm) (cv xv v : V) (D : Nat → Bool) (s : Nat → Value) (W : World) : Prop where
  b0 : D 7 = false → Below W9.heap.size W9 W
  k : D 0 = true → D 7 = false → KeyS P (s 41) keys W
  c : D 3 = true → D 7 = false → CopyS (s 44) cv P W
  l : D 5 = true → D 7 = false → LstS P (s 46) [cv, xv] W
  r : D 6 = true → D 7 = false → CopyS (s 47) v P W
  fin : D 7 = true → ∃ (W' : World) (y : VD), Below W9.heap.size W9 W' ∧ W = (put6 W' gv 0 (.int .i64 y.sort) (.bool y.on) (.int .i64 y.n) (.string ⟨y.text.toArray⟩) (.slice y.a y.list.length y.c) (.slice y.ka y.keys.length y.kc)) ∧ y.v = v ∧ ValAt W' P y
section
variable {W9 : World} {P : Nat → Prop} {gv : Nat} {keys : List Nm} {cv xv v : V} {D : Nat → Bool} {s : Nat → Value} {W W' : World}
theorem R9.start (hb : Below W9.heap.size W9 W) (d0 : D 0 = false) (dc : D 3 = false) (d5 : D 5 = false) (d6 : D 6 = false) (d7 : D 7 = false) : R9 W9 P gv keys cv xv v D s W :=
  ⟨fun _ => hb, fun h => (by rw [d0] at h; cases h), fun h => (by rw [dc] at h; cases h), fun h => (by rw [d5] at h; cases h), fun h => (by rw [d6] at h; cases h), fun h => (by rw [d7] at h; cases h)⟩
theorem R9.ext (h : R9 W9 P gv keys cv xv v D s W) (d : D 7 = false) (hb : Below W.heap.size W W') : R9 W9 P gv keys cv xv v D s W' :=
  ⟨fun _ => (h.b0 d).trans (hb.mono (h.b0 d).size), fun a b => (h.k a b).ext hb, fun a b => (h.c a b).ext hb, fun a b => (h.l a b).ext hb, fun a b => (h.r a b).ext hb, fun a => by rw [d] at a; cases a⟩
theorem R9.op0 (h : R9 W9 P gv keys cv xv v D s W) (d : D 7 = false) (hp : P W.heap.size) {n : Nat} (hn : n = keys.length) : R9 W9 P gv keys cv xv v (updD D 0) (updS s (some 41) (.slice (some ⟨W.heap.size, 0, none⟩) n n)) (W.alloc (.cells (keys.map strV).toArray 9)) :=
  { h.ext d (below_a1 W _) with k := fun _ _ => ⟨W.heap.size, by subst hn; rfl, hp, Blk.new rfl⟩ }
theorem R9.opc (h : R9 W9 P gv keys cv xv v D s W) (d : D 7 = false) (hb : Below W.heap.size W W') {x : Value} (hx : CopyS x cv P W') : R9 W9 P gv keys cv xv v (updD D 3) (updS s (some 44) x) W' := { h.ext d hb with c := fun _ _ => hx }
theorem R9.op5 (h : R9 W9 P gv keys cv xv v D s W) (d : D 7 = false) (hp : P W.heap.size) {x y : VD} (hx : ValAt W P x) (hy : ValAt W P y) (ex : x.v = xv) (ey : y.v = cv) :
    R9 W9 P gv keys cv xv v (updD D 5) (updS s (some 46) (.slice (some ⟨W.heap.size, 0, none⟩) 2 2)) (W.alloc (.cells (y.cells ++ x.cells).toArray 26)) :=
  { h.ext d (below_a1 W _) with l := fun _ _ => ⟨W.heap.size, [y, x], rfl, hp, by simp only [List.flatMap_cons, List.flatMap_nil, List.append_nil]; exact Blk.new rfl, by simp [ex, ey], fun z hz => by
      simp only [List.mem_cons, List.mem_nil_iff, or_false] at hz
      rcases hz with rfl | rfl
      · exact hy.ext (below_a1 W _)
      · exact hx.ext (below_a1 W _)⟩ }
theorem R9.op6 (h : R9 W9 P gv keys cv xv v D s W) (d : D 7 = false) (hb : Below W.heap.size W W') {x : Value} (hx : CopyS x v P W') : R9 W9 P gv keys cv xv v (updD D 6) (updS s (some 47) x) W' := { h.ext d hb with r := fun _ _ => hx }
theorem R9.op7 (h : R9 W9 P gv keys cv xv v D s W) (d : D 7 = false) {y : VD} (hv : y.v = v) (ha : ValAt W P y) : R9 W9 P gv keys cv xv v (updD D 7) (updS s none undef) (put6 W gv 0 (.int .i64 y.sort) (.bool y.on) (.int .i64 y.n) (.string ⟨y.text.toArray⟩) (.slice y.a y.list.length y.c) (.slice y.ka y.keys.length y.kc)) :=
  ⟨fun q => (by rw [updD_self] at q; cases q), fun _ q => (by rw [updD_self] at q; cases q), fun _ q => (by rw [updD_self] at q; cases q), fun _ q => (by rw [updD_self] at q; cases q), fun _ q => (by rw [updD_self] at q; cases q), fun _ => ⟨W, y, h.b0 d, rfl, hv, ha⟩⟩
end
structure LiS (w : World) (la : Option Addr) (lc : Nat) (vs : List VD) (W : World) : Prop where
  below : Below w.heap.size w W
  rb : Blk W w.heap.size #[.int .i64 0, .bool false, .int .i64 0, .string { data := #[] }, .slice none 0 0, .slice none 0 0] 26
  ob : Blk W (w.heap.size + 1) #[.int .i64 4, .bool false, .int .i64 0, .string { data := #[] }, .slice la vs.length lc, .slice none 0 0] 26
  own : Own W (w.heap.size + 2) 26 6 la vs.length lc (vs.flatMap VD.cells)
  vals : ∀ x ∈ vs, ValAt W (fun k => w.heap.size + 2 ≤ k ∧ rowOf la lc ≠ some k) x
section
variable {w : World} {la : Option Addr} {lc : Nat} {vs : List VD} {W W' : World}
theorem LiS.sz (h : LiS w la lc vs W) : w.heap.size + 2 ≤ W.heap.size := h.ob.lt
theorem LiS.ext (h : LiS w la lc vs W) (hb : Below W.heap.size W W') : LiS w la lc vs W' :=
  ⟨h.below.trans (hb.mono h.below.size), h.rb.ext hb, h.ob.ext hb, h.own.ext hb, fun x hx => (h.vals x hx).ext hb⟩
theorem LiS.more (h : LiS w la lc vs W) {x : VD} (hx : ValAt W (fun k => w.heap.size + 2 ≤ k ∧ rowOf la lc ≠ some k) x) {a : Option Addr} {k : Nat} (ho : Own W' (w.heap.size + 2) 26 6 a (vs.length + 1) k (vs.flatMap VD.cells ++ x.cells)) (hg : W.grownBy W' (rowOf la lc))
  (hb : rowOf a k = rowOf la lc ∨ rowOf a k = some W.heap.size) : LiS w a k (vs ++ [x]) (W'.setCell ⟨w.heap.size + 1, 4, none⟩ (.slice a (vs.length + 1) k)) := by
 have hlo := h.own.rowBase (Nat.le_refl _)
 have hlt := h.ob.lt
 have ap : ∀ j, j < w.heap.size + 2 → some j ≠ rowOf la lc := fun j hj => h.own.apart hj
 have q0 : w.heap.size ≠ w.heap.size + 1 := by omega
 have hne : rowOf a k ≠ some (w.heap.size + 1) := rowOf_apart (fun e => ap (w.heap.size + 1) (by omega) e.symm) hlt hb
 have hv : ∀ y, ValAt W (fun k => w.heap.size + 2 ≤ k ∧ rowOf la lc ≠ some k) y → ValAt (W'.setCell ⟨w.heap.size + 1, 4, none⟩ (.slice a (vs.length + 1) k)) (fun j => w.heap.size + 2 ≤ j ∧ rowOf a k ≠ some j) y := fun y hy =>
  ((hy.mono (q := fun g => (w.heap.size + 2 ≤ g ∧ rowOf la lc ≠ some g) ∧ g < W.heap.size) fun g h1 h2 => ⟨h1, h2⟩).congr fun g h1 _ => (Below.heap_setCell W' ⟨w.heap.size + 1, 4, none⟩ _ g (by show g ≠ w.heap.size + 1; omega)).trans (hg.block g h1.2 (fun e => h1.1.2 e.symm))).mono fun g h1 _ => ⟨h1.1.1, fun e => by
   rcases hb with hb | hb
   ·
    rw [hb] at e; exact h1.1.2 e
   ·
    rw [hb] at e; simp at e; omega⟩
 refine ⟨(h.below.grown hg h.below.size (fun j hj => by have := hlo j hj; omega)).setCell (p := ⟨w.heap.size + 1, 4, none⟩) (by show w.heap.size ≤ w.heap.size + 1; omega) _, (h.rb.grown hg (ap _ (by omega))).other (p := ⟨w.heap.size + 1, 4, none⟩) q0 _, ?_, ?_, fun y hy => ?_⟩
 ·
  rw [List.length_append]
  exact (h.ob.grown hg (ap _ (by omega))).set 4 _
 ·
  rw [List.length_append, List.flatMap_append, List.flatMap_singleton]
  exact ho.setCell_row (p := ⟨w.heap.size + 1, 4, none⟩) hne _
 ·
  rcases List.mem_append.1 hy with hy | hy
  ·
   exact hv y (h.vals y hy)
  ·
   rw [List.mem_singleton] at hy; subst hy; exact hv y hx
end
end Go.Proofs.YthnbeebilomchaaGreatDoor

namespace Go.Proofs.YthnbeebilomchaaGreatDoor
open Go Go.RowKit

theorem listR_end {W : World} {tm : Array Value} {R : Ending → World → Prop} {g : Nat} {u0 u1 u2 u3 u4 u5 : Value} (h2 : tm.getD 2 undef = .pointer (some ⟨g, 0, none⟩)) (hB : Blk W g #[u0, u1, u2, u3, u4, u5] 26)
    (hR : R (.returned (.agg #[u0, u1, u2, u3, u4, u5])) W) : bodyPost Tryz.prog Tryz.f78 R .ret { tmps := tm, defers := [] } W := by
  have d0 := hB.cell 0
  have d1 := hB.cell 1
  have d2 := hB.cell 2
  have d3 := hB.cell 3
  have d4 := hB.cell 4
  have d5 := hB.cell 5
  simp only [List.getElem?_toArray, List.getElem?_cons_zero, List.getElem?_cons_succ] at d0 d1 d2 d3 d4 d5
  rw [Array.getD_eq_getD_getElem?] at h2
  refine bodyPost_ret (v := .agg #[u0, u1, u2, u3, u4, u5]) ?_ rfl hR
  simp [results, Tryz.results78, go_sem, h2, d0, d1, d2, d3, d4, d5]
theorem LiS.fin {w : World} {la : Option Addr} {lc : Nat} {vs : List VD} {W : World} (h : LiS w la lc vs W) {v : V} (hv : listW (vs.map VD.v) = v) :
  DocN w v (.returned (.agg #[.int .i64 4, .bool false, .int .i64 0, .string { data := #[] }, .slice la vs.length lc, .slice none 0 0])) (put6 W w.heap.size 0 (.int .i64 4) (.bool false) (.int .i64 0) (.string { data := #[] }) (.slice la vs.length lc) (.slice none 0 0)) := by
 have hot : ∀ k, w.heap.size + 2 ≤ k → (put6 W w.heap.size 0 (.int .i64 4) (.bool false) (.int .i64 0) (.string { data := #[] }) (.slice la vs.length lc) (.slice none 0 0)).heap[k]? = W.heap[k]? := fun k hk => put6_other (by omega)
 refine ⟨.mk 4 false 0 [] la lc vs none 0 [], rfl, by rw [VD.v_eq, ← hv]; rfl, .mk ?_ (Row.nil _ _ _) (fun g _ hg => by have := h.own.base hg; omega) (fun g h0 _ => by simp at h0) (fun x hx => ?_), put6_below (o := 0) h.below (Nat.le_refl _)⟩
 ·
  exact h.own.row.congr fun g _ hg _ => hot g (h.own.base hg)
 ·
  exact ((h.vals x hx).congr fun g hg _ => hot g hg.1).mono fun g hg _ => by omega
set_option maxHeartbeats 16000000 in
set_option maxRecDepth 20000 in
theorem listR_any (a : Option Addr) (c : Nat) (l : List E) (w : World) (hr : Row w 6 a l.length (l.flatMap E.cells)) (hn : l.length ≤ 1048576) : Calls Tryz.prog 78 #[.slice a l.length c] w (DocN w (listW (l.map editW))) := by
 have HRW := Lib.hid hr
 have HN := Lib.hid hn
 obtain ⟨n, hnn⟩ : ∃ q, q = l.length := ⟨_, rfl⟩
 rw [← hnn]
 have HNN := Lib.hid hnn
 clear hr hn hnn
 have HL0 : Hid (LiS w none 0 [] ((w.alloc (.cells #[.int .i64 0, .bool false, .int .i64 0, .string { data := #[] }, .slice none 0 0, .slice none 0 0] 26)).alloc (.cells #[.int .i64 4, .bool false, .int .i64 0, .string { data := #[] }, .slice none 0 0, .slice none 0 0] 26))) := Lib.hid ⟨(below_a1 w _).alloc (by simp) _, (Blk.new rfl).alloc _, Blk.new (by simp), Own.nil _ _ _ _, fun _ h => by cases h⟩
 go_enter Tryz.func78, Tryz.ntmps78
 go_wp2_with fail
 go_loopw [4] (fun i wr => ∃ (k : Nat) (la : Option Addr) (lc : Nat) (vs : List VD), k ≤ n ∧ i = .int .i64 k ∧ Hid (vs.length = k) ∧ Hid (vs.map VD.v = (l.take k).map editW) ∧ Hid (LiS w la lc vs wr)) (fun i _ => n - (intOf i).toNat)
 case atStart => exact ⟨0, none, 0, [], Nat.zero_le _, rfl, Lib.hid rfl, Lib.hid rfl, HL0⟩
 case round =>
  obtain ⟨k, la, lc, vs, hk, rfl, HLEN, HVS, HI⟩ := hrel
  clear HL0
  by_cases hlt : k < n
  ·
   obtain ⟨e, hx⟩ := get_some (l := l) (by rw [← HNN.out]; exact hlt)
   have HX := Lib.hid hx
   obtain ⟨b, off, hab, q0, q1, q2, q3, q4, q5⟩ := edit_at (HRW.out.ext HI.out.below) hx
   subst hab
   have HL : Hid (Below wr.heap.size wr wr) := Lib.hid (Below.refl _ _)
   clear hx
   obtain ⟨ge, hg⟩ : ∃ q, q = wr.heap.size := ⟨_, rfl⟩
   obtain ⟨W2, hQ⟩ : ∃ q, q = wr.alloc (.cells #[.int .i64 e.fl, .int .i64 e.fu, .int .i64 e.tl, .int .i64 e.tu, .string ⟨e.text.toArray⟩] 69) := ⟨_, rfl⟩
   have hb : Below wr.heap.size wr W2 := by rw [hQ]; exact below_a1 _ _
   have HLn : Hid (Below wr.heap.size wr W2 ∧ Blk W2 ge #[.int .i64 e.fl, .int .i64 e.fu, .int .i64 e.tl, .int .i64 e.tu, .string ⟨e.text.toArray⟩] 69) := Lib.hid (⟨HL.out.trans (hb.mono HL.out.size), by rw [hQ, hg]; exact Blk.new rfl⟩)
   clear HL hb
   have HL := HLn
   clear HLn
   go_upto_region 6 with (fail)
   rw [← hQ, ← hg]
   clear hQ hg
   clear q0 q1 q2 q3 q4 q5
   have z4 : W2.cell? ⟨ge, 4, none⟩ = some (.string ⟨e.text.toArray⟩) := HL.out.2.cell 4
   have hgl := HL.out.2.lt
   go_wp2_with fail
   refine (strR_any e.text (W2.alloc (.cells #[strV kText] 9))).mono ?_
   rintro e1 W3 ⟨rfl, hb1⟩
   clear z4 hgl
   obtain ⟨gk, hgk⟩ : ∃ q, q = W2.heap.size := ⟨_, rfl⟩
   have hb : Below W2.heap.size W2 W3 := (below_a1 W2 (.cells #[strV kText] 9)).trans (hb1.mono (by simp))
   have hkb : Blk W3 gk ([kText].map strV).toArray 9 := by rw [hgk]; exact (Blk.new rfl).ext hb1
   have HGK : Hid (wr.heap.size ≤ gk) := Lib.hid (by rw [hgk]; exact HL.out.1.size)
   clear hb1
   have HLn : Hid (Below wr.heap.size wr W3 ∧ Blk W3 ge #[.int .i64 e.fl, .int .i64 e.fu, .int .i64 e.tl, .int .i64 e.tu, .string ⟨e.text.toArray⟩] 69 ∧ Blk W3 gk ([kText].map strV).toArray 9) := Lib.hid (⟨HL.out.1.trans (hb.mono HL.out.1.size), HL.out.2.ext hb, hkb⟩)
   clear HL hb
   have HL := HLn
   clear HLn
   clear hkb
   go_wp2_with fail
   rw [← hgk]
   refine (recR_any (some ⟨gk, 0, none⟩) (some ⟨W3.heap.size, 0, none⟩) 1 1 1 1 _).mono ?_
   rintro e1 W4 ⟨rfl, hb1⟩
   clear hgk
   obtain ⟨gl, hgl⟩ : ∃ q, q = W3.heap.size := ⟨_, rfl⟩
   have hb : Below W3.heap.size W3 W4 := (below_a1 W3 (.cells #[.int .i64 3, .bool false, .int .i64 0, .string ⟨e.text.toArray⟩, .slice none 0 0, .slice none 0 0] 26)).trans (hb1.mono (by simp))
   have hlb : Blk W4 gl ([strD e.text].flatMap VD.cells).toArray 26 := by rw [hgl]; exact (Blk.new rfl).ext hb1
   have HGL : Hid (wr.heap.size ≤ gl) := Lib.hid (by rw [hgl]; exact HL.out.1.size)
   rw [← hgl]
   clear hb1 hgl
   have HLn : Hid (Below wr.heap.size wr W4 ∧ Blk W4 ge #[.int .i64 e.fl, .int .i64 e.fu, .int .i64 e.tl, .int .i64 e.tu, .string ⟨e.text.toArray⟩] 69 ∧ Blk W4 gk ([kText].map strV).toArray 9 ∧ Blk W4 gl ([strD e.text].flatMap VD.cells).toArray 26) := Lib.hid (⟨HL.out.1.trans (hb.mono HL.out.1.size), HL.out.2.1.ext hb, HL.out.2.2.ext hb, hlb⟩)
   clear HL hb
   have HL := HLn
   clear HLn
   clear hlb
   obtain ⟨x, hxd⟩ : ∃ q, q = recD gk gl [kText] [strD e.text] 1 1 := ⟨_, rfl⟩
   obtain ⟨gv, hg⟩ : ∃ q, q = W4.heap.size := ⟨_, rfl⟩
   obtain ⟨W5, hQ⟩ : ∃ q, q = W4.alloc (.cells #[.int .i64 5, .bool false, .int .i64 0, .string { data := #[] }, .slice (some ⟨gl, 0, none⟩) 1 1, .slice (some ⟨gk, 0, none⟩) 1 1] 26) := ⟨_, rfl⟩
   have hb : Below W4.heap.size W4 W5 := by rw [hQ]; exact below_a1 _ _
   have hxv : x.v = recW [(kText, strW e.text)] := by first | (rw [hxd, recD_v]; done) | (rw [hxd, recD_v]; rfl)
   have hxa : ValAt W5 (fun g => wr.heap.size ≤ g ∧ g ≠ gv) x := by
    have h2 := HL.out.2.2.1.lt
    have h3 := HL.out.2.2.2.lt
    rw [hxd]
    exact recD_at (HL.out.2.2.1.ext hb) (HL.out.2.2.2.ext hb) ⟨HGK.out, by omega⟩ ⟨HGL.out, by omega⟩ fun y hy => by
     rw [List.mem_singleton] at hy; subst hy; exact .leaf
   have hxb : Blk W5 gv #[.int .i64 x.sort, .bool x.on, .int .i64 x.n, .string ⟨x.text.toArray⟩, .slice x.a x.list.length x.c, .slice x.ka x.keys.length x.kc] 26 := by rw [hQ, hg, hxd]; exact Blk.new rfl
   have HXV0 := Lib.hid hxv
   have HGV : Hid (wr.heap.size ≤ gv) := Lib.hid (by rw [hg]; exact HL.out.1.size)
   clear hxd hxv
   have HLn : Hid (Below wr.heap.size wr W5 ∧ Blk W5 ge #[.int .i64 e.fl, .int .i64 e.fu, .int .i64 e.tl, .int .i64 e.tu, .string ⟨e.text.toArray⟩] 69 ∧ Blk W5 gv #[.int .i64 x.sort, .bool x.on, .int .i64 x.n, .string ⟨x.text.toArray⟩, .slice x.a x.list.length x.c, .slice x.ka x.keys.length x.kc] 26 ∧ ValAt W5 (fun g => wr.heap.size ≤ g ∧ g ≠ gv) x) := Lib.hid (⟨HL.out.1.trans (hb.mono HL.out.1.size), HL.out.2.1.ext hb, hxb, hxa⟩)
   clear HL hb
   have HL := HLn
   clear HLn
   clear hxb hxa
   go_upto_region 7 with (fail)
   rw [← hQ, ← hg]
   clear hQ hg
   obtain ⟨b', off', hab, q0, q1, q2, q3, q4, q5⟩ := edit_at ((HRW.out.ext HI.out.below).ext HL.out.1) HX.out
   injection hab with hab
   injection hab with h1 h2
   subst h1 h2
   clear q0 q1 q2 q3 q4
   obtain ⟨wh, hwh⟩ : ∃ q, q = e.whole := ⟨_, rfl⟩
   rw [← hwh] at q5
   have HWH := Lib.hid hwh
   clear hwh
   cases wh with
   | true =>
    go_upto_region 10 with (fail)
    clear q5
    have HI2 : Hid (LiS w la lc vs W5) := Lib.hid (HI.out.ext HL.out.1)
    have HXV := Lib.hid ((show x.v = editW e by rw [HXV0.out]; unfold editW; rw [← HWH.out]; rfl))
    have HXP : Hid (ValAt (W5.alloc (.cells #[.int .i64 x.sort, .bool x.on, .int .i64 x.n, .string ⟨x.text.toArray⟩, .slice x.a x.list.length x.c, .slice x.ka x.keys.length x.kc] 26)) (fun g => w.heap.size + 2 ≤ g ∧ rowOf la lc ≠ some g) x) := Lib.hid ((HL.out.2.2.2.mono fun g hg _ => ⟨by have := HI.out.sz; omega, own_lt2 HI.out.own hg.1⟩).ext (below_a1 _ _))
    have HO : Hid (Own (W5.alloc (.cells #[.int .i64 x.sort, .bool x.on, .int .i64 x.n, .string ⟨x.text.toArray⟩, .slice x.a x.list.length x.c, .slice x.ka x.keys.length x.kc] 26)) (w.heap.size + 2) 26 6 la k lc (vs.flatMap VD.cells)) := Lib.hid (by have := HI2.out.own.ext (below_a1 W5 (.cells #[.int .i64 x.sort, .bool x.on, .int .i64 x.n, .string ⟨x.text.toArray⟩, .slice x.a x.list.length x.c, .slice x.ka x.keys.length x.kc] 26)); rw [HLEN.out] at this; exact this)
    have HMS : Hid (w.heap.size + 2 ≤ (W5.alloc (.cells #[.int .i64 x.sort, .bool x.on, .int .i64 x.n, .string ⟨x.text.toArray⟩, .slice x.a x.list.length x.c, .slice x.ka x.keys.length x.kc] 26)).heap.size) := Lib.hid (by have := HI2.out.sz; simp; omega)
    have HA : Hid (∀ a' k' W', Own W' (w.heap.size + 2) 26 6 a' (k + 1) k' (vs.flatMap VD.cells ++ x.cells) → (W5.alloc (.cells #[.int .i64 x.sort, .bool x.on, .int .i64 x.n, .string ⟨x.text.toArray⟩, .slice x.a x.list.length x.c, .slice x.ka x.keys.length x.kc] 26)).grownBy W' (rowOf la lc) → (rowOf a' k' = rowOf la lc ∨ rowOf a' k' = some (W5.alloc (.cells #[.int .i64 x.sort, .bool x.on, .int .i64 x.n, .string ⟨x.text.toArray⟩, .slice x.a x.list.length x.c, .slice x.ka x.keys.length x.kc] 26)).heap.size) → LiS w a' k' (vs ++ [x]) (W'.setCell ⟨w.heap.size + 1, 4, none⟩ (.slice a' (k + 1) k')) ∧ Blk W' (w.heap.size + 1) #[.int .i64 4, .bool false, .int .i64 0, .string { data := #[] }, .slice la vs.length lc, .slice none 0 0] 26) := Lib.hid fun a' k' W' h1 h2 h3 => by
     have h4 := HI2.out.ext (below_a1 W5 (.cells #[.int .i64 x.sort, .bool x.on, .int .i64 x.n, .string ⟨x.text.toArray⟩, .slice x.a x.list.length x.c, .slice x.ka x.keys.length x.kc] 26))
     rw [← HLEN.out] at h1 ⊢
     exact ⟨h4.more HXP.out h1 h2 h3, h4.ob.grown h2 (h4.own.apart (by omega))⟩
    obtain ⟨v0, v1, v2, v3, v4, v5⟩ := HL.out.2.2.1.sixT
    obtain ⟨l0, l1, l2, l3, l4, l5⟩ := HI2.out.ob.sixT
    rw [HLEN.out] at l4
    have hlb := HI2.out.ob.lt
    have hnb : n ≤ 1048576 := by rw [HNN.out]; exact HN.out
    go_wp2_with (at_builtin; refine wpList_append_Own rfl _ _ 23 rfl (w.heap.size + 2) 26 _ 6 88 Tryz.underlying23 Tryz.infoDoc rfl (by decide) la k lc _ rfl HO.out (some ⟨W5.heap.size, 0, none⟩) 1 1 x.cells rfl (row_blk (by rw [val_arr]; exact Blk.new rfl) x.len) (by rw [val_list]; intro u hu; simp at hu; rcases hu with rfl | rfl | rfl | rfl | rfl | rfl <;> rfl) (by unfold maxLen; omega) (by omega) HMS.out ?_; intro a5 c5 w5 ho5 hg5 hb5; obtain ⟨hl5, hob5⟩ := HA.out _ _ _ ho5 hg5 hb5; have HL5 := Lib.hid hl5; have g4 := hob5.free 4; have s4 := hob5.cell 4; simp only [List.getElem?_toArray, List.getElem?_cons_zero, List.getElem?_cons_succ] at s4; clear ho5 hg5 hb5 hl5 hob5 v0 v1 v2 v3 v4 v5 l0 l1 l2 l3 l4 l5 hlb)
    go_roundw
    case rel => exact ⟨k + 1, a5, c5, vs ++ [x], by omega, by go_num, Lib.hid (by rw [List.length_append, HLEN.out]; rfl), Lib.hid (by rw [take_snoc1 HX.out, List.map_append, List.map_append, HVS.out, List.map_singleton, List.map_singleton, HXV.out]), HL5⟩
    case measure => simp [intOf]; omega
   | false =>
    go_upto_region 8 with (fail)
    clear q5
    have HB8 : Hid (Below W5.heap.size W5 W5.drew) := Lib.hid (Below.refl _ _).drew
    have HEB : Hid (∀ W, Below W5.heap.size W5 W → Blk W ge #[.int .i64 e.fl, .int .i64 e.fu, .int .i64 e.tl, .int .i64 e.tu, .string ⟨e.text.toArray⟩] 69) := Lib.hid fun W h => HL.out.2.1.ext h
    refine wp_region_held_drew (S := (fun w' => Blk w' ge #[.int .i64 e.fl, .int .i64 e.fu, .int .i64 e.tl, .int .i64 e.tu, .string ⟨e.text.toArray⟩] 69)) (by kernel_rfl) ?_ (fun hHeld => ?_)
    ·
     exact HL.out.2.1
    refine wpAnyH_take (i := 1) (oi := ⟨some 33, _, _, _, _, _⟩) (v := ?_) rfl (by kernel_rfl) (by kernel_rfl) (by kernel_rfl) (fun _ _ _ h => h) (Or.inl ⟨by rfl, ?_⟩) (by assumption) ?_; rotate_left; focus (intro w hSw; (try dsimp only at hSw); first | (go_simp; done) | (go_simp; with_reducible rfl))
    try simp only [Act.put, List.setIfInBounds_toArray, List.set_cons_succ, List.set_cons_zero]
    refine wpAnyH_take (i := 2) (oi := ⟨some 34, _, _, _, _, _⟩) (v := ?_) rfl (by kernel_rfl) (by kernel_rfl) (by kernel_rfl) (fun _ _ _ h => h) (Or.inl ⟨by rfl, ?_⟩) (by assumption) ?_; rotate_left; focus (intro w hSw; (try dsimp only at hSw); have b0 := Blk.cell hSw 0; have b1 := Blk.cell hSw 1; simp only [List.getElem?_toArray, List.getElem?_cons_zero, List.getElem?_cons_succ] at b0 b1; first | (go_simp; done) | (go_simp; with_reducible rfl))
    try simp only [Act.put, List.setIfInBounds_toArray, List.set_cons_succ, List.set_cons_zero]
    refine wpAnyH_take (i := 4) (oi := ⟨some 36, _, _, _, _, _⟩) (v := ?_) rfl (by kernel_rfl) (by kernel_rfl) (by kernel_rfl) (fun _ _ _ h => h) (Or.inl ⟨by rfl, ?_⟩) (by assumption) ?_; rotate_left; focus (intro w hSw; (try dsimp only at hSw); first | (go_simp; done) | (go_simp; with_reducible rfl))
    try simp only [Act.put, List.setIfInBounds_toArray, List.set_cons_succ, List.set_cons_zero]
    refine wpAnyH_take (i := 5) (oi := ⟨some 37, _, _, _, _, _⟩) (v := ?_) rfl (by kernel_rfl) (by kernel_rfl) (by kernel_rfl) (fun _ _ _ h => h) (Or.inl ⟨by rfl, ?_⟩) (by assumption) ?_; rotate_left; focus (intro w hSw; (try dsimp only at hSw); have b2 := Blk.cell hSw 2; have b3 := Blk.cell hSw 3; simp only [List.getElem?_toArray, List.getElem?_cons_zero, List.getElem?_cons_succ] at b2 b3; first | (go_simp; done) | (go_simp; with_reducible rfl))
    try simp only [Act.put, List.setIfInBounds_toArray, List.set_cons_succ, List.set_cons_zero]
    refine wpAnyH_invF [32, 35, 38, 39, 40, 7] [1, 2, 4, 5] (R8 W5 e) (by kernel_rfl) (by rfl) (by kernel_rfl) (by kernel_rfl) (Nat.le_of_ble_eq_true (by kernel_rfl)) ?_ ?_ ?_ ?_
    ·
     intro D s W hJ
     exact HEB.out W hJ.below
    ·
     intro s
     exact R8.start HB8.out rfl rfl rfl rfl rfl rfl
    ·
     refine InvAllF.cons (o := ⟨some 32, _, _, _, _, _⟩) (by kernel_rfl) (fun D s W hD hdep hno hJ K hK => ?_) ?_
     ·
      have n8 : D 8 = false := hno 8 (by kernel_rfl)
      have n10 : D 10 = false := hno 10 (by kernel_rfl)
      clear hdep hno
      simp only [setAll, List.foldl_cons, List.foldl_nil, Act.put, List.setIfInBounds_toArray, List.set_cons_succ, List.set_cons_zero]
      have HJ := Lib.hid hJ
      clear hJ
      go_simp
      refine hK.out _ _ _ ?_ (HJ.out.op0 n10)
      simp only [setAll, List.foldl_cons, List.foldl_nil, Act.put, List.setIfInBounds_toArray, List.set_cons_succ, List.set_cons_zero]
     refine InvAllF.skip (by kernel_rfl) ?_
     refine InvAllF.skip (by kernel_rfl) ?_
     refine InvAllF.cons (o := ⟨some 35, _, _, _, _, _⟩) (by kernel_rfl) (fun D s W hD hdep hno hJ K hK => ?_) ?_
     ·
      have n6 : D 6 = false := hno 6 (by kernel_rfl)
      have n7 : D 7 = false := hno 7 (by kernel_rfl)
      have n8 : D 8 = false := hno 8 (by kernel_rfl)
      have n10 : D 10 = false := hno 10 (by kernel_rfl)
      clear hdep hno
      simp only [setAll, List.foldl_cons, List.foldl_nil, Act.put, List.setIfInBounds_toArray, List.set_cons_succ, List.set_cons_zero]
      have HJ := Lib.hid hJ
      clear hJ
      go_simp
      refine (atR_any e.fl e.fu W).mono ?_
      rintro e1 w2 ⟨y, rfl, hyv, hya, hb⟩
      refine hK.out _ _ _ ?_ (HJ.out.op3 hb ⟨y, rfl, hyv, hya.mono fun k hk _ => HJ.out.nb n10 hk⟩)
      simp only [setAll, List.foldl_cons, List.foldl_nil, Act.put, List.setIfInBounds_toArray, List.set_cons_succ, List.set_cons_zero]
     refine InvAllF.skip (by kernel_rfl) ?_
     refine InvAllF.skip (by kernel_rfl) ?_
     refine InvAllF.cons (o := ⟨some 38, _, _, _, _, _⟩) (by kernel_rfl) (fun D s W hD hdep hno hJ K hK => ?_) ?_
     ·
      have e3 : D 3 = true := hdep 3 (by kernel_rfl)
      have n7 : D 7 = false := hno 7 (by kernel_rfl)
      have n8 : D 8 = false := hno 8 (by kernel_rfl)
      have n10 : D 10 = false := hno 10 (by kernel_rfl)
      clear hdep hno
      simp only [setAll, List.foldl_cons, List.foldl_nil, Act.put, List.setIfInBounds_toArray, List.set_cons_succ, List.set_cons_zero]
      have HJ := Lib.hid hJ
      clear hJ
      go_simp
      refine (atR_any e.tl e.tu W).mono ?_
      rintro e1 w2 ⟨y, rfl, hyv, hya, hb⟩
      refine hK.out _ _ _ ?_ (HJ.out.op6 hb ⟨y, rfl, hyv, hya.mono fun k hk _ => HJ.out.nb n10 hk⟩)
      simp only [setAll, List.foldl_cons, List.foldl_nil, Act.put, List.setIfInBounds_toArray, List.set_cons_succ, List.set_cons_zero]
     refine InvAllF.cons (o := ⟨some 39, _, _, _, _, _⟩) (by kernel_rfl) (fun D s W hD hdep hno hJ K hK => ?_) ?_
     ·
      have e3 : D 3 = true := hdep 3 (by kernel_rfl)
      have e6 : D 6 = true := hdep 6 (by kernel_rfl)
      have n8 : D 8 = false := hno 8 (by kernel_rfl)
      have n10 : D 10 = false := hno 10 (by kernel_rfl)
      clear hdep hno
      simp only [setAll, List.foldl_cons, List.foldl_nil, Act.put, List.setIfInBounds_toArray, List.set_cons_succ, List.set_cons_zero]
      obtain ⟨y1, q35, qv1, qa1⟩ := hJ.s35 e3 n10
      obtain ⟨y2, q38, qv2, qa2⟩ := hJ.s38 e6 n10
      have HQ1 := Lib.hid q35
      have HQ2 := Lib.hid q38
      have HV := Lib.hid (And.intro (And.intro qv1 qa1) (And.intro qv2 qa2))
      clear q35 q38 qv1 qa1 qv2 qa2
      have HJ := Lib.hid hJ
      clear hJ
      simp only [HQ1.out, HQ2.out]
      go_simp
      refine hK.out _ _ _ ?_ (by have h7 := HJ.out.op7 n10 HV.out.1.2 HV.out.2.2 HV.out.1.1 HV.out.2.1; rw [val_list, val_list] at h7; exact h7)
      simp only [HQ1.out, HQ2.out, setAll, List.foldl_cons, List.foldl_nil, Act.put, List.setIfInBounds_toArray, List.set_cons_succ, List.set_cons_zero]
     refine InvAllF.cons (o := ⟨some 40, _, _, _, _, _⟩) (by kernel_rfl) (fun D s W hD hdep hno hJ K hK => ?_) ?_
     ·
      have e0 : D 0 = true := hdep 0 (by kernel_rfl)
      have e3 : D 3 = true := hdep 3 (by kernel_rfl)
      have e6 : D 6 = true := hdep 6 (by kernel_rfl)
      have e7 : D 7 = true := hdep 7 (by kernel_rfl)
      have n10 : D 10 = false := hno 10 (by kernel_rfl)
      clear hdep hno
      simp only [setAll, List.foldl_cons, List.foldl_nil, Act.put, List.setIfInBounds_toArray, List.set_cons_succ, List.set_cons_zero]
      obtain ⟨gk8, q32, pk8, bk8⟩ := hJ.s32 e0 n10
      obtain ⟨gl8, ys, q39, pl8, bl8, qv8, qa8⟩ := hJ.s39 e7 n10
      obtain ⟨y1, y2, rfl⟩ : ∃ y1 y2, ys = [y1, y2] := by
       have := congrArg List.length qv8
       simp only [List.length_map, List.length_cons, List.length_nil] at this
       match ys, this with
       | [y1, y2], _ => exact ⟨y1, y2, rfl⟩
      have HQ1 : Hid (s 32 = .slice (some ⟨gk8, 0, none⟩) 2 2) := Lib.hid q32
      have HQ2 : Hid (s 39 = .slice (some ⟨gl8, 0, none⟩) 2 2) := Lib.hid q39
      have HV8 := Lib.hid qv8
      have HD8 := Lib.hid (fun (W' : World) (hb : Below W.heap.size W W') => recD_at (n := 2) (m := 2) (bk8.ext hb) (bl8.ext hb) pk8 pl8 (fun y hy => (qa8 y hy).ext hb))
      clear q32 pk8 bk8 q39 pl8 bl8 qv8 qa8
      have HJ := Lib.hid hJ
      clear hJ
      simp only [HQ1.out, HQ2.out]
      go_simp
      refine (recR_any (some ⟨gk8, 0, none⟩) (some ⟨gl8, 0, none⟩) 2 2 2 2 W).mono ?_
      rintro e1 w2 ⟨rfl, hb⟩
      refine hK.out _ _ _ ?_ (HJ.out.op8 hb ⟨recD gk8 gl8 [kStart, kEnd] [y1, y2] 2 2, rfl, by rw [recD_v, HV8.out]; rfl, HD8.out _ hb⟩)
      simp only [HQ1.out, HQ2.out, setAll, List.foldl_cons, List.foldl_nil, Act.put, List.setIfInBounds_toArray, List.set_cons_succ, List.set_cons_zero]
      try rfl
     refine InvAllF.cons (o := ⟨some 7, _, _, _, _, _⟩) (by kernel_rfl) (fun D s W hD hdep hno hJ K hK => ?_) ?_
     ·
      have n10 : D 10 = false := hno 10 (by kernel_rfl)
      clear hdep hno
      simp only [setAll, List.foldl_cons, List.foldl_nil, Act.put, List.setIfInBounds_toArray, List.set_cons_succ, List.set_cons_zero]
      have HJ := Lib.hid hJ
      clear hJ
      go_simp
      refine hK.out _ _ _ ?_ (HJ.out.op9 n10)
      simp only [setAll, List.foldl_cons, List.foldl_nil, Act.put, List.setIfInBounds_toArray, List.set_cons_succ, List.set_cons_zero]
     refine InvAllF.cons (o := ⟨none, _, _, _, _, _⟩) (by kernel_rfl) (fun D s W hD hdep hno hJ K hK => ?_) ?_
     ·
      have e0 : D 0 = true := hdep 0 (by kernel_rfl)
      have e3 : D 3 = true := hdep 3 (by kernel_rfl)
      have e6 : D 6 = true := hdep 6 (by kernel_rfl)
      have e7 : D 7 = true := hdep 7 (by kernel_rfl)
      have e8 : D 8 = true := hdep 8 (by kernel_rfl)
      have e9 : D 9 = true := hdep 9 (by kernel_rfl)
      clear hdep hno
      simp only [setAll, List.foldl_cons, List.foldl_nil, Act.put, List.setIfInBounds_toArray, List.set_cons_succ, List.set_cons_zero]
      obtain ⟨y, q40, qv, qa⟩ := hJ.s40 e8 hD
      obtain ⟨g, q7, hg, hB, -⟩ := hJ.s7 e9
      have hB := hB hD
      have HQ := Lib.hid q40
      have HQ7 := Lib.hid q7
      have HV := Lib.hid (And.intro qv qa)
      have HBK := Lib.hid hB
      have f0 := hB.free 0
      have f1 := hB.free 1
      have f2 := hB.free 2
      have f3 := hB.free 3
      have f4 := hB.free 4
      have f5 := hB.free 5
      obtain ⟨z0, z1, z2, z3, z4, z5⟩ := hB.sixT
      clear q40 qv qa q7 hB
      have HJ := Lib.hid hJ
      clear hJ
      simp only [HQ.out, HQ7.out]
      go_simp
      refine hK.out _ undef _ ?_ (HJ.out.op10 HQ7.out hg HBK.out HV.out.1 HV.out.2 e9)
      simp only [HQ.out, HQ7.out, setAll, List.foldl_cons, List.foldl_nil, Act.put, List.setIfInBounds_toArray, List.set_cons_succ, List.set_cons_zero]
     exact InvAllF.nil
    ·
     intro D s Wy hD hJ
     obtain ⟨gr, q7, hgr, hbx⟩ := hJ.ends (hD 9 (by decide)) (hD 10 (by decide))
     obtain ⟨r, hrv, hrb, hra⟩ := hbx
     have hb := hJ.below
     have HB5S : Hid (wr.heap.size ≤ W5.heap.size) := Lib.hid HL.out.1.size
     have HGVS : Hid (gv < W5.heap.size) := Lib.hid HL.out.2.2.1.lt
     have HGRS : Hid (W5.heap.size ≤ gr) := Lib.hid hgr
     have HLn : Hid (Below wr.heap.size wr Wy ∧ Blk Wy ge #[.int .i64 e.fl, .int .i64 e.fu, .int .i64 e.tl, .int .i64 e.tu, .string ⟨e.text.toArray⟩] 69 ∧ Blk Wy gv #[.int .i64 x.sort, .bool x.on, .int .i64 x.n, .string ⟨x.text.toArray⟩, .slice x.a x.list.length x.c, .slice x.ka x.keys.length x.kc] 26 ∧ ValAt Wy (fun g => wr.heap.size ≤ g ∧ g ≠ gv) x ∧ Blk Wy gr #[.int .i64 r.sort, .bool r.on, .int .i64 r.n, .string ⟨r.text.toArray⟩, .slice r.a r.list.length r.c, .slice r.ka r.keys.length r.kc] 26 ∧ ValAt Wy (fun j => W5.heap.size ≤ j ∧ j ≠ gr) r) := Lib.hid (⟨HL.out.1.trans (hb.mono HL.out.1.size), HL.out.2.1.ext hb, HL.out.2.2.1.ext hb, HL.out.2.2.2.ext hb, hrb, hra⟩)
     clear HL hb
     have HL := HLn
     clear HLn
     have HRV := Lib.hid hrv
     clear hrb hra hrv hgr
     simp only [setAll, List.foldl_cons, List.foldl_nil, Act.put, List.setIfInBounds_toArray, List.set_cons_succ, List.set_cons_zero]
     rw [q7]
     clear q7 hJ hD
     generalize s 32 = u32
     generalize s 35 = u35
     generalize s 38 = u38
     generalize s 39 = u39
     generalize s 40 = u40
     clear s D
     go_upto_region 9 with (fail)
     have HB9 : Hid (Below Wy.heap.size Wy Wy.drew) := Lib.hid (Below.refl _ _).drew
     have HPP : Hid (∀ j, Wy.heap.size ≤ j → wr.heap.size ≤ j ∧ j ≠ gv) := Lib.hid fun j hj => ⟨by have := HL.out.1.size; omega, by have := HL.out.2.2.1.lt; omega⟩
     have HRA : Hid (ValAt Wy (fun j => wr.heap.size ≤ j ∧ j ≠ gv) r) := Lib.hid (HL.out.2.2.2.2.2.mono fun j hj _ => ⟨by have := HB5S.out; omega, by have := HGVS.out; omega⟩)
     have HK9 : Hid (∀ W, Below Wy.heap.size Wy W → Blk W ge #[.int .i64 e.fl, .int .i64 e.fu, .int .i64 e.tl, .int .i64 e.tu, .string ⟨e.text.toArray⟩] 69 ∧ Blk W gr #[.int .i64 r.sort, .bool r.on, .int .i64 r.n, .string ⟨r.text.toArray⟩, .slice r.a r.list.length r.c, .slice r.ka r.keys.length r.kc] 26) := Lib.hid fun W h => ⟨HL.out.2.1.ext h, HL.out.2.2.2.2.1.ext h⟩
     have HGVB : Hid (∀ W, Below Wy.heap.size Wy W → Blk W gv #[.int .i64 x.sort, .bool x.on, .int .i64 x.n, .string ⟨x.text.toArray⟩, .slice x.a x.list.length x.c, .slice x.ka x.keys.length x.kc] 26) := Lib.hid fun W h => HL.out.2.2.1.ext h
     have HNE : Hid (ge ≠ gv ∧ gr ≠ gv) := Lib.hid ⟨fun q => absurd (blk_types (q ▸ HL.out.2.1) HL.out.2.2.1) (by decide), by have h1 := HGVS.out; have h2 := HGRS.out; omega⟩
     refine wp_region_held_drew (S := (fun w' => Blk w' ge #[.int .i64 e.fl, .int .i64 e.fu, .int .i64 e.tl, .int .i64 e.tu, .string ⟨e.text.toArray⟩] 69 ∧ Blk w' gr #[.int .i64 r.sort, .bool r.on, .int .i64 r.n, .string ⟨r.text.toArray⟩, .slice r.a r.list.length r.c, .slice r.ka r.keys.length r.kc] 26)) (by kernel_rfl) ?_ (fun hHeld => ?_)
     ·
      exact HK9.out _ HB9.out
     refine wpAnyH_take (i := 1) (oi := ⟨some 42, _, _, _, _, _⟩) (v := ?_) rfl (by kernel_rfl) (by kernel_rfl) (by kernel_rfl) (fun _ _ _ h => h) (Or.inl ⟨by rfl, ?_⟩) (by assumption) ?_; rotate_left; focus (intro w hSw; (try dsimp only at hSw); first | (go_simp; done) | (go_simp; with_reducible rfl))
     try simp only [Act.put, List.setIfInBounds_toArray, List.set_cons_succ, List.set_cons_zero]
     refine wpAnyH_take (i := 2) (oi := ⟨some 43, _, _, _, _, _⟩) (v := ?_) rfl (by kernel_rfl) (by kernel_rfl) (by kernel_rfl) (fun _ _ _ h => h) (Or.inl ⟨by rfl, ?_⟩) (by assumption) ?_; rotate_left; focus (intro w hSw; (try dsimp only at hSw); have b4 := Blk.cell hSw.1 4; simp only [List.getElem?_toArray, List.getElem?_cons_zero, List.getElem?_cons_succ] at b4; first | (go_simp; done) | (go_simp; with_reducible rfl))
     try simp only [Act.put, List.setIfInBounds_toArray, List.set_cons_succ, List.set_cons_zero]
     refine wpAnyH_take (i := 4) (oi := ⟨some 45, _, _, _, _, _⟩) (v := ?_) rfl (by kernel_rfl) (by kernel_rfl) (by kernel_rfl) (fun _ _ _ h => h) (Or.inl ⟨by rfl, ?_⟩) (by assumption) ?_; rotate_left; focus (intro w hSw; (try dsimp only at hSw); obtain ⟨c0, c1, c2, c3, c4, c5⟩ := Blk.sixT hSw.2; first | (go_simp; done) | (go_simp; with_reducible rfl))
     try simp only [Act.put, List.setIfInBounds_toArray, List.set_cons_succ, List.set_cons_zero]
     refine wpAnyH_invF [41, 44, 46, 47] [1, 2, 4] (fun D s W => R9 Wy (fun j => wr.heap.size ≤ j ∧ j ≠ gv) gv [kText, kRange] (strW e.text) (rangeW e) (editW e) D s W ∧ (D 7 = true → Blk W ge #[.int .i64 e.fl, .int .i64 e.fu, .int .i64 e.tl, .int .i64 e.tu, .string ⟨e.text.toArray⟩] 69 ∧ Blk W gr #[.int .i64 r.sort, .bool r.on, .int .i64 r.n, .string ⟨r.text.toArray⟩, .slice r.a r.list.length r.c, .slice r.ka r.keys.length r.kc] 26)) (by kernel_rfl) (by rfl) (by kernel_rfl) (by kernel_rfl) (Nat.le_of_ble_eq_true (by kernel_rfl)) ?_ ?_ ?_ ?_
     ·
      intro D s W hJ
      cases hd : D 7 with
      | false => exact HK9.out W (hJ.1.b0 hd)
      | true => exact hJ.2 hd
     ·
      intro s
      exact ⟨R9.start HB9.out rfl rfl rfl rfl rfl, fun q => by cases q⟩
     ·
      refine InvAllF.cons (o := ⟨some 41, _, _, _, _, _⟩) (by kernel_rfl) (fun D s W hD hdep hno hJ K hK => ?_) ?_
      ·
       have n6 : D 6 = false := hno 6 (by kernel_rfl)
       have n7 : D 7 = false := hno 7 (by kernel_rfl)
       clear hdep hno
       simp only [setAll, List.foldl_cons, List.foldl_nil, Act.put, List.setIfInBounds_toArray, List.set_cons_succ, List.set_cons_zero]
       have hJ := hJ.1
       have HJ := Lib.hid hJ
       clear hJ
       go_simp
       refine hK.out _ _ _ ?_ ⟨HJ.out.op0 (n := 2) n7 (HPP.out _ (HJ.out.b0 n7).size) rfl, fun q => by rw [show updD D 0 7 = D 7 from rfl, n7] at q; cases q⟩
       simp only [setAll, List.foldl_cons, List.foldl_nil, Act.put, List.setIfInBounds_toArray, List.set_cons_succ, List.set_cons_zero]
      refine InvAllF.skip (by kernel_rfl) ?_
      refine InvAllF.skip (by kernel_rfl) ?_
      refine InvAllF.cons (o := ⟨some 44, _, _, _, _, _⟩) (by kernel_rfl) (fun D s W hD hdep hno hJ K hK => ?_) ?_
      ·
       have n5 : D 5 = false := hno 5 (by kernel_rfl)
       have n6 : D 6 = false := hno 6 (by kernel_rfl)
       have n7 : D 7 = false := hno 7 (by kernel_rfl)
       clear hdep hno
       simp only [setAll, List.foldl_cons, List.foldl_nil, Act.put, List.setIfInBounds_toArray, List.set_cons_succ, List.set_cons_zero]
       have hJ := hJ.1
       have HJ := Lib.hid hJ
       clear hJ
       go_simp
       refine (strR_any e.text W).mono ?_
       rintro e1 w2 ⟨rfl, hb⟩
       refine hK.out _ _ _ ?_ ⟨HJ.out.opc n7 hb ⟨strD e.text, rfl, rfl, .leaf⟩, fun q => by rw [show updD D 3 7 = D 7 from rfl, n7] at q; cases q⟩
       simp only [setAll, List.foldl_cons, List.foldl_nil, Act.put, List.setIfInBounds_toArray, List.set_cons_succ, List.set_cons_zero]
       try rfl
      refine InvAllF.skip (by kernel_rfl) ?_
      refine InvAllF.cons (o := ⟨some 46, _, _, _, _, _⟩) (by kernel_rfl) (fun D s W hD hdep hno hJ K hK => ?_) ?_
      ·
       have e3 : D 3 = true := hdep 3 (by kernel_rfl)
       have n6 : D 6 = false := hno 6 (by kernel_rfl)
       have n7 : D 7 = false := hno 7 (by kernel_rfl)
       clear hdep hno
       simp only [setAll, List.foldl_cons, List.foldl_nil, Act.put, List.setIfInBounds_toArray, List.set_cons_succ, List.set_cons_zero]
       have hJ := hJ.1
       obtain ⟨y1, q44, qv1, qa1⟩ := hJ.c e3 n7
       have HQ1 := Lib.hid q44
       have HV := Lib.hid (And.intro qv1 qa1)
       clear q44 qv1 qa1
       have HJ := Lib.hid hJ
       clear hJ
       simp only [HQ1.out]
       go_simp
       refine hK.out _ _ _ ?_ ⟨(by have h7 := HJ.out.op5 (x := r) n7 (HPP.out _ (HJ.out.b0 n7).size) (HRA.out.ext (HJ.out.b0 n7)) HV.out.2 HRV.out HV.out.1; rw [val_list, val_list] at h7; exact h7), fun q => by rw [show updD D 5 7 = D 7 from rfl, n7] at q; cases q⟩
       simp only [HQ1.out, setAll, List.foldl_cons, List.foldl_nil, Act.put, List.setIfInBounds_toArray, List.set_cons_succ, List.set_cons_zero]
      refine InvAllF.cons (o := ⟨some 47, _, _, _, _, _⟩) (by kernel_rfl) (fun D s W hD hdep hno hJ K hK => ?_) ?_
      ·
       have e0 : D 0 = true := hdep 0 (by kernel_rfl)
       have e3 : D 3 = true := hdep 3 (by kernel_rfl)
       have e5 : D 5 = true := hdep 5 (by kernel_rfl)
       have n7 : D 7 = false := hno 7 (by kernel_rfl)
       clear hdep hno
       simp only [setAll, List.foldl_cons, List.foldl_nil, Act.put, List.setIfInBounds_toArray, List.set_cons_succ, List.set_cons_zero]
       have hJ := hJ.1
       obtain ⟨gk8, q32, pk8, bk8⟩ := hJ.k e0 n7
       obtain ⟨gl8, ys, q39, pl8, bl8, qv8, qa8⟩ := hJ.l e5 n7
       obtain ⟨y1, y2, rfl⟩ : ∃ y1 y2, ys = [y1, y2] := by
        have := congrArg List.length qv8
        simp only [List.length_map, List.length_cons, List.length_nil] at this
        match ys, this with
        | [y1, y2], _ => exact ⟨y1, y2, rfl⟩
       have HQ1 : Hid (s 41 = .slice (some ⟨gk8, 0, none⟩) 2 2) := Lib.hid q32
       have HQ2 : Hid (s 46 = .slice (some ⟨gl8, 0, none⟩) 2 2) := Lib.hid q39
       have HV8 := Lib.hid qv8
       have HD8 := Lib.hid (fun (W' : World) (hb : Below W.heap.size W W') => recD_at (n := 2) (m := 2) (bk8.ext hb) (bl8.ext hb) pk8 pl8 (fun y hy => (qa8 y hy).ext hb))
       clear q32 pk8 bk8 q39 pl8 bl8 qv8 qa8
       have HJ := Lib.hid hJ
       clear hJ
       simp only [HQ1.out, HQ2.out]
       go_simp
       refine (recR_any (some ⟨gk8, 0, none⟩) (some ⟨gl8, 0, none⟩) 2 2 2 2 W).mono ?_
       rintro e1 w2 ⟨rfl, hb⟩
       refine hK.out _ _ _ ?_ ⟨HJ.out.op6 n7 hb ⟨recD gk8 gl8 [kText, kRange] [y1, y2] 2 2, rfl, by rw [recD_v, HV8.out]; unfold editW; rw [← HWH.out]; rfl, HD8.out _ hb⟩, fun q => by rw [show updD D 6 7 = D 7 from rfl, n7] at q; cases q⟩
       simp only [HQ1.out, HQ2.out, setAll, List.foldl_cons, List.foldl_nil, Act.put, List.setIfInBounds_toArray, List.set_cons_succ, List.set_cons_zero]
       try rfl
      refine InvAllF.cons (o := ⟨none, _, _, _, _, _⟩) (by kernel_rfl) (fun D s W hD hdep hno hJ K hK => ?_) ?_
      ·
       have e0 : D 0 = true := hdep 0 (by kernel_rfl)
       have e3 : D 3 = true := hdep 3 (by kernel_rfl)
       have e5 : D 5 = true := hdep 5 (by kernel_rfl)
       have e6 : D 6 = true := hdep 6 (by kernel_rfl)
       clear hdep hno
       simp only [setAll, List.foldl_cons, List.foldl_nil, Act.put, List.setIfInBounds_toArray, List.set_cons_succ, List.set_cons_zero]
       have hJ := hJ.1
       obtain ⟨y, q40, qv, qa⟩ := hJ.r e6 hD
       have hB := HGVB.out W (hJ.b0 hD)
       have HQ := Lib.hid q40
       have HV := Lib.hid (And.intro qv qa)
       have f0 := hB.free 0
       have f1 := hB.free 1
       have f2 := hB.free 2
       have f3 := hB.free 3
       have f4 := hB.free 4
       have f5 := hB.free 5
       obtain ⟨z0, z1, z2, z3, z4, z5⟩ := hB.sixT
       clear q40 qv qa hB
       have HJ := Lib.hid hJ
       clear hJ
       simp only [HQ.out]
       go_simp
       refine hK.out _ undef _ ?_ ⟨HJ.out.op7 hD HV.out.1 HV.out.2, fun _ => ⟨(put6_other HNE.out.1).trans (HK9.out W (HJ.out.b0 hD)).1, (put6_other HNE.out.2).trans (HK9.out W (HJ.out.b0 hD)).2⟩⟩
       simp only [HQ.out, setAll, List.foldl_cons, List.foldl_nil, Act.put, List.setIfInBounds_toArray, List.set_cons_succ, List.set_cons_zero]
      exact InvAllF.nil
     ·
      intro D s Wz hD hJ
      obtain ⟨W', y, hb, hW, hyv, hya⟩ := hJ.1.fin (hD 7 (by decide))
      have hbz : Below wr.heap.size wr Wz := by rw [hW]; exact put6_below (HL.out.1.trans (hb.mono HL.out.1.size)) HGV.out
      have hxb : Blk Wz gv #[.int .i64 y.sort, .bool y.on, .int .i64 y.n, .string ⟨y.text.toArray⟩, .slice y.a y.list.length y.c, .slice y.ka y.keys.length y.kc] 26 := by rw [hW]; exact store6T (HGVB.out _ hb)
      have hxa : ValAt Wz (fun g => wr.heap.size ≤ g ∧ g ≠ gv) y := by rw [hW]; exact hya.congr fun j hj _ => put6_other hj.2
      have HLn : Hid (Below wr.heap.size wr Wz ∧ Blk Wz gv #[.int .i64 y.sort, .bool y.on, .int .i64 y.n, .string ⟨y.text.toArray⟩, .slice y.a y.list.length y.c, .slice y.ka y.keys.length y.kc] 26 ∧ ValAt Wz (fun g => wr.heap.size ≤ g ∧ g ≠ gv) y) := Lib.hid ⟨hbz, hxb, hxa⟩
      have HYV := Lib.hid hyv
      clear HL hb hW hyv hya hbz hxb hxa
      have HL := HLn
      clear HLn
      simp only [setAll, List.foldl_cons, List.foldl_nil, Act.put, List.setIfInBounds_toArray, List.set_cons_succ, List.set_cons_zero]
      clear hJ hD
      generalize s 41 = u41
      generalize s 44 = u44
      generalize s 46 = u46
      generalize s 47 = u47
      clear s D
      go_upto_region 10 with (fail)
      have HI2 : Hid (LiS w la lc vs Wz) := Lib.hid (HI.out.ext HL.out.1)
      have HXV := Lib.hid (HYV.out)
      have HXP : Hid (ValAt (Wz.alloc (.cells #[.int .i64 y.sort, .bool y.on, .int .i64 y.n, .string ⟨y.text.toArray⟩, .slice y.a y.list.length y.c, .slice y.ka y.keys.length y.kc] 26)) (fun g => w.heap.size + 2 ≤ g ∧ rowOf la lc ≠ some g) y) := Lib.hid ((HL.out.2.2.mono fun g hg _ => ⟨by have := HI.out.sz; omega, own_lt2 HI.out.own hg.1⟩).ext (below_a1 _ _))
      have HO : Hid (Own (Wz.alloc (.cells #[.int .i64 y.sort, .bool y.on, .int .i64 y.n, .string ⟨y.text.toArray⟩, .slice y.a y.list.length y.c, .slice y.ka y.keys.length y.kc] 26)) (w.heap.size + 2) 26 6 la k lc (vs.flatMap VD.cells)) := Lib.hid (by have := HI2.out.own.ext (below_a1 Wz (.cells #[.int .i64 y.sort, .bool y.on, .int .i64 y.n, .string ⟨y.text.toArray⟩, .slice y.a y.list.length y.c, .slice y.ka y.keys.length y.kc] 26)); rw [HLEN.out] at this; exact this)
      have HMS : Hid (w.heap.size + 2 ≤ (Wz.alloc (.cells #[.int .i64 y.sort, .bool y.on, .int .i64 y.n, .string ⟨y.text.toArray⟩, .slice y.a y.list.length y.c, .slice y.ka y.keys.length y.kc] 26)).heap.size) := Lib.hid (by have := HI2.out.sz; simp; omega)
      have HA : Hid (∀ a' k' W', Own W' (w.heap.size + 2) 26 6 a' (k + 1) k' (vs.flatMap VD.cells ++ y.cells) → (Wz.alloc (.cells #[.int .i64 y.sort, .bool y.on, .int .i64 y.n, .string ⟨y.text.toArray⟩, .slice y.a y.list.length y.c, .slice y.ka y.keys.length y.kc] 26)).grownBy W' (rowOf la lc) → (rowOf a' k' = rowOf la lc ∨ rowOf a' k' = some (Wz.alloc (.cells #[.int .i64 y.sort, .bool y.on, .int .i64 y.n, .string ⟨y.text.toArray⟩, .slice y.a y.list.length y.c, .slice y.ka y.keys.length y.kc] 26)).heap.size) → LiS w a' k' (vs ++ [y]) (W'.setCell ⟨w.heap.size + 1, 4, none⟩ (.slice a' (k + 1) k')) ∧ Blk W' (w.heap.size + 1) #[.int .i64 4, .bool false, .int .i64 0, .string { data := #[] }, .slice la vs.length lc, .slice none 0 0] 26) := Lib.hid fun a' k' W' h1 h2 h3 => by
       have h4 := HI2.out.ext (below_a1 Wz (.cells #[.int .i64 y.sort, .bool y.on, .int .i64 y.n, .string ⟨y.text.toArray⟩, .slice y.a y.list.length y.c, .slice y.ka y.keys.length y.kc] 26))
       rw [← HLEN.out] at h1 ⊢
       exact ⟨h4.more HXP.out h1 h2 h3, h4.ob.grown h2 (h4.own.apart (by omega))⟩
      obtain ⟨v0, v1, v2, v3, v4, v5⟩ := HL.out.2.1.sixT
      obtain ⟨l0, l1, l2, l3, l4, l5⟩ := HI2.out.ob.sixT
      rw [HLEN.out] at l4
      have hlb := HI2.out.ob.lt
      have hnb : n ≤ 1048576 := by rw [HNN.out]; exact HN.out
      go_wp2_with (at_builtin; refine wpList_append_Own rfl _ _ 23 rfl (w.heap.size + 2) 26 _ 6 88 Tryz.underlying23 Tryz.infoDoc rfl (by decide) la k lc _ rfl HO.out (some ⟨Wz.heap.size, 0, none⟩) 1 1 y.cells rfl (row_blk (by rw [val_arr]; exact Blk.new rfl) y.len) (by rw [val_list]; intro u hu; simp at hu; rcases hu with rfl | rfl | rfl | rfl | rfl | rfl <;> rfl) (by unfold maxLen; omega) (by omega) HMS.out ?_; intro a5 c5 w5 ho5 hg5 hb5; obtain ⟨hl5, hob5⟩ := HA.out _ _ _ ho5 hg5 hb5; have HL5 := Lib.hid hl5; have g4 := hob5.free 4; have s4 := hob5.cell 4; simp only [List.getElem?_toArray, List.getElem?_cons_zero, List.getElem?_cons_succ] at s4; clear ho5 hg5 hb5 hl5 hob5 v0 v1 v2 v3 v4 v5 l0 l1 l2 l3 l4 l5 hlb)
      go_roundw
      case rel => exact ⟨k + 1, a5, c5, vs ++ [y], by omega, by go_num, Lib.hid (by rw [List.length_append, HLEN.out]; rfl), Lib.hid (by rw [take_snoc1 HX.out, List.map_append, List.map_append, HVS.out, List.map_singleton, List.map_singleton, HXV.out]), HL5⟩
      case measure => simp [intOf]; omega
  ·
   obtain rfl : k = n := by omega
   have HV : Hid (listW (vs.map VD.v) = listW (l.map editW)) := Lib.hid (by rw [HVS.out, HNN.out, List.take_length])
   obtain ⟨z0, z1, z2, z3, z4, z5⟩ := HI.out.rb.sixT
   obtain ⟨l0, l1, l2, l3, l4, l5⟩ := HI.out.ob.sixT
   have f0 := HI.out.rb.free 0
   have f1 := HI.out.rb.free 1
   have f2 := HI.out.rb.free 2
   have f3 := HI.out.rb.free 3
   have f4 := HI.out.rb.free 4
   have f5 := HI.out.rb.free 5
   go_wp2
   refine listR_end (g := w.heap.size) rfl (store6T HI.out.rb) ?_
   exact HI.out.fin HV.out
end Go.Proofs.YthnbeebilomchaaGreatDoor

namespace Go.Proofs.YthnbeebilomchaaGreatDoor
open Go Go.RowKit

structure ToS (w : World) (P : Nat → Prop) (c : CD) (ka : Option Addr) (kc : Nat) (keys : List Nm) (la : Option Addr) (lc : Nat) (ys : List VD) (W : World) : Prop where
  below : Below w.heap.size w W
  cb : Blk W w.heap.size (cdC c) 31
  rb : Blk W (w.heap.size + 1) #[.int .i64 0, .bool false, .int .i64 0, .string { data := #[] }, .slice none 0 0, .slice none 0 0] 26
  ko : Own W (w.heap.size + 2) 9 1 ka keys.length kc (keys.map strV)
  lo : Own W (w.heap.size + 2) 26 6 la ys.length lc (ys.flatMap VD.cells)
  vals : ∀ y ∈ ys, ValAt W (fun k => P k ∧ rowOf la lc ≠ some k ∧ rowOf ka kc ≠ some k) y
section
variable {w : World} {P : Nat → Prop} {c : CD} {ka : Option Addr} {kc : Nat} {keys : List Nm} {la : Option Addr} {lc : Nat} {ys : List VD} {W W' : World}
theorem ToS.ext (h : ToS w P c ka kc keys la lc ys W) (hb : Below W.heap.size W W') : ToS w P c ka kc keys la lc ys W' :=
  ⟨h.below.trans (hb.mono h.below.size), h.cb.ext hb, h.rb.ext hb, h.ko.ext hb, h.lo.ext hb, fun y hy => (h.vals y hy).ext hb⟩
theorem ToS.sz (h : ToS w P c ka kc keys la lc ys W) : w.heap.size + 2 ≤ W.heap.size := h.rb.lt
theorem ToS.fresh (h : ToS w P c ka kc keys la lc ys W) {k : Nat} (hk : W.heap.size ≤ k) : rowOf la lc ≠ some k ∧ rowOf ka kc ≠ some k := ⟨own_lt2 h.lo hk, own_lt2 h.ko hk⟩
theorem ToS.old (h : ToS w P c ka kc keys la lc ys W) {k : Nat} (hk : k < w.heap.size + 2) : rowOf la lc ≠ some k ∧ rowOf ka kc ≠ some k := ⟨fun e => h.lo.apart hk e.symm, fun e => h.ko.apart hk e.symm⟩
theorem ToS.appL (h : ToS w P c ka kc keys la lc ys W) {y : VD} (hy : ValAt W (fun k => P k ∧ rowOf la lc ≠ some k ∧ rowOf ka kc ≠ some k) y) {a : Option Addr} {k : Nat} (ho : Own W' (w.heap.size + 2) 26 6 a (ys.length + 1) k (ys.flatMap VD.cells ++ y.cells)) (hg : W.grownBy W' (rowOf la lc)) (hb : rowOf a k = rowOf la lc ∨ rowOf a k = some W.heap.size) :
  ToS w P c ka kc keys a k (ys ++ [y]) W' := by
 have hlo := h.lo.rowBase (Nat.le_refl _)
 have hv : ∀ z, ValAt W (fun k => P k ∧ rowOf la lc ≠ some k ∧ rowOf ka kc ≠ some k) z → ValAt W' (fun j => P j ∧ rowOf a k ≠ some j ∧ rowOf ka kc ≠ some j) z := fun z hz =>
  ((hz.mono (q := fun g => (P g ∧ rowOf la lc ≠ some g ∧ rowOf ka kc ≠ some g) ∧ g < W.heap.size) fun g h1 h2 => ⟨h1, h2⟩).congr fun g h1 _ => hg.block g h1.2 (fun e => h1.1.2.1 e.symm)).mono fun g h1 _ => ⟨h1.1.1, fun e => by
   rcases hb with hb | hb
   ·
    rw [hb] at e; exact h1.1.2.1 e
   ·
    rw [hb] at e; simp at e; omega, h1.1.2.2⟩
 refine ⟨h.below.grown hg h.below.size (fun j hj => by have := hlo j hj; omega), h.cb.grown hg (h.lo.apart (by omega)), h.rb.grown hg (h.lo.apart (by omega)), h.ko.keptType h.lo (by decide) hg, ?_, fun z hz => ?_⟩
 ·
  rw [List.length_append, List.flatMap_append, List.flatMap_singleton]; exact ho
 ·
  rcases List.mem_append.1 hz with hz | hz
  ·
   exact hv z (h.vals z hz)
  ·
   rw [List.mem_singleton] at hz; subst hz; exact hv z hy
theorem ToS.appK (h : ToS w P c ka kc keys la lc ys W) {x : Nm} {a : Option Addr} {k : Nat} (ho : Own W' (w.heap.size + 2) 9 1 a (keys.length + 1) k (keys.map strV ++ [strV x])) (hg : W.grownBy W' (rowOf ka kc)) (hb : rowOf a k = rowOf ka kc ∨ rowOf a k = some W.heap.size) :
  ToS w P c a k (keys ++ [x]) la lc ys W' := by
 have hlo := h.ko.rowBase (Nat.le_refl _)
 have hv : ∀ z, ValAt W (fun k => P k ∧ rowOf la lc ≠ some k ∧ rowOf ka kc ≠ some k) z → ValAt W' (fun j => P j ∧ rowOf la lc ≠ some j ∧ rowOf a k ≠ some j) z := fun z hz =>
  ((hz.mono (q := fun g => (P g ∧ rowOf la lc ≠ some g ∧ rowOf ka kc ≠ some g) ∧ g < W.heap.size) fun g h1 h2 => ⟨h1, h2⟩).congr fun g h1 _ => hg.block g h1.2 (fun e => h1.1.2.2 e.symm)).mono fun g h1 _ => ⟨h1.1.1, h1.1.2.1, fun e => by
   rcases hb with hb | hb
   ·
    rw [hb] at e; exact h1.1.2.2 e
   ·
    rw [hb] at e; simp at e; omega⟩
 refine ⟨h.below.grown hg h.below.size (fun j hj => by have := hlo j hj; omega), h.cb.grown hg (h.ko.apart (by omega)), h.rb.grown hg (h.ko.apart (by omega)), ?_, h.lo.keptType h.ko (by decide) hg, fun z hz => hv z (h.vals z hz)⟩
 rw [List.length_append, List.map_append, List.map_singleton]; exact ho
theorem ToS.rcd (h : ToS w P c ka kc keys la lc ys W) (hP : ∀ k, w.heap.size + 2 ≤ k → P k) : ValAt W P (.mk 5 false 0 [] la lc ys ka kc keys) :=
  .mk h.lo.row h.ko.row (fun g _ hg => hP g (h.lo.base hg)) (fun g _ hg => hP g (h.ko.base hg)) (fun y hy => (h.vals y hy).mono fun _ hk _ => hk.1)
end
structure R14 (W9 : World) (P : Nat → Prop) (gv : Nat) (keys : List Nm) (cv xv v : V) (D : Nat → Bool) (s : Nat → Value) (W : World) : Prop where
  b0 : D 7 = false → Below W9.heap.size W9 W
  k : D 0 = true → D 7 = false → KeyS P (s 55) keys W
  c : D 4 = true → D 7 = false → CopyS (s 59) cv P W
  l : D 5 = true → D 7 = false → LstS P (s 60) [xv, cv] W
  r : D 6 = true → D 7 = false → CopyS (s 61) v P W
  fin : D 7 = true → ∃ (W' : World) (y : VD), Below W9.heap.size W9 W' ∧ W = (put6 W' gv 0 (.int .i64 y.sort) (.bool y.on) (.int .i64 y.n) (.string ⟨y.text.toArray⟩) (.slice y.a y.list.length y.c) (.slice y.ka y.keys.length y.kc)) ∧ y.v = v ∧ ValAt W' P y
section
variable {W9 : World} {P : Nat → Prop} {gv : Nat} {keys : List Nm} {cv xv v : V} {D : Nat → Bool} {s : Nat → Value} {W W' : World}
theorem R14.start (hb : Below W9.heap.size W9 W) (d0 : D 0 = false) (dc : D 4 = false) (d5 : D 5 = false) (d6 : D 6 = false) (d7 : D 7 = false) : R14 W9 P gv keys cv xv v D s W :=
  ⟨fun _ => hb, fun h => (by rw [d0] at h; cases h), fun h => (by rw [dc] at h; cases h), fun h => (by rw [d5] at h; cases h), fun h => (by rw [d6] at h; cases h), fun h => (by rw [d7] at h; cases h)⟩
theorem R14.ext (h : R14 W9 P gv keys cv xv v D s W) (d : D 7 = false) (hb : Below W.heap.size W W') : R14 W9 P gv keys cv xv v D s W' :=
  ⟨fun _ => (h.b0 d).trans (hb.mono (h.b0 d).size), fun a b => (h.k a b).ext hb, fun a b => (h.c a b).ext hb, fun a b => (h.l a b).ext hb, fun a b => (h.r a b).ext hb, fun a => by rw [d] at a; cases a⟩
theorem R14.op0 (h : R14 W9 P gv keys cv xv v D s W) (d : D 7 = false) (hp : P W.heap.size) {n : Nat} (hn : n = keys.length) : R14 W9 P gv keys cv xv v (updD D 0) (updS s (some 55) (.slice (some ⟨W.heap.size, 0, none⟩) n n)) (W.alloc (.cells (keys.map strV).toArray 9)) :=
  { h.ext d (below_a1 W _) with k := fun _ _ => ⟨W.heap.size, by subst hn; rfl, hp, Blk.new rfl⟩ }
theorem R14.opc (h : R14 W9 P gv keys cv xv v D s W) (d : D 7 = false) (hb : Below W.heap.size W W') {x : Value} (hx : CopyS x cv P W') : R14 W9 P gv keys cv xv v (updD D 4) (updS s (some 59) x) W' := { h.ext d hb with c := fun _ _ => hx }
theorem R14.op5 (h : R14 W9 P gv keys cv xv v D s W) (d : D 7 = false) (hp : P W.heap.size) {x y : VD} (hx : ValAt W P x) (hy : ValAt W P y) (ex : x.v = xv) (ey : y.v = cv) :
    R14 W9 P gv keys cv xv v (updD D 5) (updS s (some 60) (.slice (some ⟨W.heap.size, 0, none⟩) 2 2)) (W.alloc (.cells (x.cells ++ y.cells).toArray 26)) :=
  { h.ext d (below_a1 W _) with l := fun _ _ => ⟨W.heap.size, [x, y], rfl, hp, by simp only [List.flatMap_cons, List.flatMap_nil, List.append_nil]; exact Blk.new rfl, by simp [ex, ey], fun z hz => by
      simp only [List.mem_cons, List.mem_nil_iff, or_false] at hz
      rcases hz with rfl | rfl
      · exact hx.ext (below_a1 W _)
      · exact hy.ext (below_a1 W _)⟩ }
theorem R14.op6 (h : R14 W9 P gv keys cv xv v D s W) (d : D 7 = false) (hb : Below W.heap.size W W') {x : Value} (hx : CopyS x v P W') : R14 W9 P gv keys cv xv v (updD D 6) (updS s (some 61) x) W' := { h.ext d hb with r := fun _ _ => hx }
theorem R14.op7 (h : R14 W9 P gv keys cv xv v D s W) (d : D 7 = false) {y : VD} (hv : y.v = v) (ha : ValAt W P y) : R14 W9 P gv keys cv xv v (updD D 7) (updS s none undef) (put6 W gv 0 (.int .i64 y.sort) (.bool y.on) (.int .i64 y.n) (.string ⟨y.text.toArray⟩) (.slice y.a y.list.length y.c) (.slice y.ka y.keys.length y.kc)) :=
  ⟨fun q => (by rw [updD_self] at q; cases q), fun _ q => (by rw [updD_self] at q; cases q), fun _ q => (by rw [updD_self] at q; cases q), fun _ q => (by rw [updD_self] at q; cases q), fun _ q => (by rw [updD_self] at q; cases q), fun _ => ⟨W, y, h.b0 d, rfl, hv, ha⟩⟩
end
structure R16 (W9 : World) (P : Nat → Prop) (gv : Nat) (keys : List Nm) (cv xv v : V) (D : Nat → Bool) (s : Nat → Value) (W : World) : Prop where
  b0 : D 7 = false → Below W9.heap.size W9 W
  k : D 0 = true → D 7 = false → KeyS P (s 64) keys W
  c : D 4 = true → D 7 = false → CopyS (s 68) cv P W
  l : D 5 = true → D 7 = false → LstS P (s 69) [xv, cv] W
  r : D 6 = true → D 7 = false → CopyS (s 70) v P W
  fin : D 7 = true → ∃ (W' : World) (y : VD), Below W9.heap.size W9 W' ∧ W = (put6 W' gv 0 (.int .i64 y.sort) (.bool y.on) (.int .i64 y.n) (.string ⟨y.text.toArray⟩) (.slice y.a y.list.length y.c) (.slice y.ka y.keys.length y.kc)) ∧ y.v = v ∧ ValAt W' P y
section
variable {W9 : World} {P : Nat → Prop} {gv : Nat} {keys : List Nm} {cv xv v : V} {D : Nat → Bool} {s : Nat → Value} {W W' : World}
theorem R16.start (hb : Below W9.heap.size W9 W) (d0 : D 0 = false) (dc : D 4 = false) (d5 : D 5 = false) (d6 : D 6 = false) (d7 : D 7 = false) : R16 W9 P gv keys cv xv v D s W :=
  ⟨fun _ => hb, fun h => (by rw [d0] at h; cases h), fun h => (by rw [dc] at h; cases h), fun h => (by rw [d5] at h; cases h), fun h => (by rw [d6] at h; cases h), fun h => (by rw [d7] at h; cases h)⟩
theorem R16.ext (h : R16 W9 P gv keys cv xv v D s W) (d : D 7 = false) (hb : Below W.heap.size W W') : R16 W9 P gv keys cv xv v D s W' :=
  ⟨fun _ => (h.b0 d).trans (hb.mono (h.b0 d).size), fun a b => (h.k a b).ext hb, fun a b => (h.c a b).ext hb, fun a b => (h.l a b).ext hb, fun a b => (h.r a b).ext hb, fun a => by rw [d] at a; cases a⟩
theorem R16.op0 (h : R16 W9 P gv keys cv xv v D s W) (d : D 7 = false) (hp : P W.heap.size) {n : Nat} (hn : n = keys.length) : R16 W9 P gv keys cv xv v (updD D 0) (updS s (some 64) (.slice (some ⟨W.heap.size, 0, none⟩) n n)) (W.alloc (.cells (keys.map strV).toArray 9)) :=
  { h.ext d (below_a1 W _) with k := fun _ _ => ⟨W.heap.size, by subst hn; rfl, hp, Blk.new rfl⟩ }
theorem R16.opc (h : R16 W9 P gv keys cv xv v D s W) (d : D 7 = false) (hb : Below W.heap.size W W') {x : Value} (hx : CopyS x cv P W') : R16 W9 P gv keys cv xv v (updD D 4) (updS s (some 68) x) W' := { h.ext d hb with c := fun _ _ => hx }
theorem R16.op5 (h : R16 W9 P gv keys cv xv v D s W) (d : D 7 = false) (hp : P W.heap.size) {x y : VD} (hx : ValAt W P x) (hy : ValAt W P y) (ex : x.v = xv) (ey : y.v = cv) :
    R16 W9 P gv keys cv xv v (updD D 5) (updS s (some 69) (.slice (some ⟨W.heap.size, 0, none⟩) 2 2)) (W.alloc (.cells (x.cells ++ y.cells).toArray 26)) :=
  { h.ext d (below_a1 W _) with l := fun _ _ => ⟨W.heap.size, [x, y], rfl, hp, by simp only [List.flatMap_cons, List.flatMap_nil, List.append_nil]; exact Blk.new rfl, by simp [ex, ey], fun z hz => by
      simp only [List.mem_cons, List.mem_nil_iff, or_false] at hz
      rcases hz with rfl | rfl
      · exact hx.ext (below_a1 W _)
      · exact hy.ext (below_a1 W _)⟩ }
theorem R16.op6 (h : R16 W9 P gv keys cv xv v D s W) (d : D 7 = false) (hb : Below W.heap.size W W') {x : Value} (hx : CopyS x v P W') : R16 W9 P gv keys cv xv v (updD D 6) (updS s (some 70) x) W' := { h.ext d hb with r := fun _ _ => hx }
theorem R16.op7 (h : R16 W9 P gv keys cv xv v D s W) (d : D 7 = false) {y : VD} (hv : y.v = v) (ha : ValAt W P y) : R16 W9 P gv keys cv xv v (updD D 7) (updS s none undef) (put6 W gv 0 (.int .i64 y.sort) (.bool y.on) (.int .i64 y.n) (.string ⟨y.text.toArray⟩) (.slice y.a y.list.length y.c) (.slice y.ka y.keys.length y.kc)) :=
  ⟨fun q => (by rw [updD_self] at q; cases q), fun _ q => (by rw [updD_self] at q; cases q), fun _ q => (by rw [updD_self] at q; cases q), fun _ q => (by rw [updD_self] at q; cases q), fun _ q => (by rw [updD_self] at q; cases q), fun _ => ⟨W, y, h.b0 d, rfl, hv, ha⟩⟩
end
end Go.Proofs.YthnbeebilomchaaGreatDoor

namespace Go.Proofs.YthnbeebilomchaaGreatDoor
open Go Go.RowKit

theorem toldR_end {W : World} {tm : Array Value} {R : Ending → World → Prop} {g : Nat} {u0 u1 u2 u3 u4 u5 : Value} (h2 : tm.getD 2 undef = .pointer (some ⟨g, 0, none⟩)) (hB : Blk W g #[u0, u1, u2, u3, u4, u5] 26)
    (hR : R (.returned (.agg #[u0, u1, u2, u3, u4, u5])) W) : bodyPost Tryz.prog Tryz.f58 R .ret { tmps := tm, defers := [] } W := by
  have d0 := hB.cell 0
  have d1 := hB.cell 1
  have d2 := hB.cell 2
  have d3 := hB.cell 3
  have d4 := hB.cell 4
  have d5 := hB.cell 5
  simp only [List.getElem?_toArray, List.getElem?_cons_zero, List.getElem?_cons_succ] at d0 d1 d2 d3 d4 d5
  rw [Array.getD_eq_getD_getElem?] at h2
  refine bodyPost_ret (v := .agg #[u0, u1, u2, u3, u4, u5]) ?_ rfl hR
  simp [results, Tryz.results58, go_sem, h2, d0, d1, d2, d3, d4, d5]
set_option maxHeartbeats 16000000 in
set_option maxRecDepth 20000 in
theorem toldR_9 (P : Nat → Prop) (c : CD) (w : World) (hP : ∀ g, w.heap.size ≤ g → P g) (hk : c.kind = 9) (hc : ValAt w P c.other) (hrow : Row w 6 c.a c.changes.length (c.changes.flatMap E.cells)) (hn : c.changes.length ≤ 1048576) :
  Calls Tryz.prog 58 #[.agg (cdC c)] w (DocP w P (paramsW c.k)) := by
 obtain ⟨W1, hW1⟩ : ∃ q, q = (w.alloc (.cells (cdC c) 31)).alloc (.cells #[.int .i64 0, .bool false, .int .i64 0, .string { data := #[] }, .slice none 0 0, .slice none 0 0] 26) := ⟨_, rfl⟩
 have hb0 : Below w.heap.size w W1 := by rw [hW1]; exact (below_a1 w _).alloc (by simp) _
 have HL : Hid (Below w.heap.size w W1 ∧ Blk W1 w.heap.size (cdC c) 31 ∧ Blk W1 (w.heap.size + 1) #[.int .i64 0, .bool false, .int .i64 0, .string { data := #[] }, .slice none 0 0, .slice none 0 0] 26) := Lib.hid ⟨hb0, by rw [hW1]; exact (Blk.new rfl).alloc _, by rw [hW1]; exact Blk.new (by simp)⟩
 have HP := Lib.hid hP
 have HOV : Hid (ValAt W1 (fun g => P g ∧ g < w.heap.size) c.other) := Lib.hid ((hc.mono fun g h1 h2 => ⟨h1, h2⟩).ext hb0)
 have HCR := Lib.hid hrow
 have HCL := Lib.hid hn
 have HK := Lib.hid hk
 have c0 : W1.cell? ⟨w.heap.size, 0, none⟩ = some (.int .i64 9) := by rw [← hk]; exact HL.out.2.1.cell 0
 clear hb0 hP hc hrow hn hk
 go_enter Tryz.func58, Tryz.ntmps58
 go_upto_region 1 with (fail)
 rw [← hW1]
 clear hW1
 go_upto_region 2 with (fail)
 clear c0
 have hwl := HL.out.2.1.lt
 have c13 : W1.cell? ⟨w.heap.size, 13, none⟩ = some (.int .i64 c.other.sort) := HL.out.2.1.cell 13
 have c14 : W1.cell? ⟨w.heap.size, 14, none⟩ = some (.bool c.other.on) := HL.out.2.1.cell 14
 have c15 : W1.cell? ⟨w.heap.size, 15, none⟩ = some (.int .i64 c.other.n) := HL.out.2.1.cell 15
 have c16 : W1.cell? ⟨w.heap.size, 16, none⟩ = some (.string ⟨c.other.text.toArray⟩) := HL.out.2.1.cell 16
 have c17 : W1.cell? ⟨w.heap.size, 17, none⟩ = some (.slice c.other.a c.other.list.length c.other.c) := HL.out.2.1.cell 17
 have c18 : W1.cell? ⟨w.heap.size, 18, none⟩ = some (.slice c.other.ka c.other.keys.length c.other.kc) := HL.out.2.1.cell 18
 go_wp2_with fail
 refine (recR_any (some ⟨W1.heap.size, 0, none⟩) (some ⟨W1.heap.size + 1, 0, none⟩) 1 1 1 1 ((W1.alloc (.cells #[strV kId] 9)).alloc (.cells #[.int .i64 c.other.sort, .bool c.other.on, .int .i64 c.other.n, .string ⟨c.other.text.toArray⟩, .slice c.other.a c.other.list.length c.other.c, .slice c.other.ka c.other.keys.length c.other.kc] 26))).mono ?_
 rintro e W2 ⟨rfl, hb1⟩
 clear c13 c14 c15 c16 c17 c18 hwl
 obtain ⟨gk, hgk⟩ : ∃ q, q = W1.heap.size := ⟨_, rfl⟩
 obtain ⟨gl, hgl⟩ : ∃ q, q = W1.heap.size + 1 := ⟨_, rfl⟩
 have hb : Below W1.heap.size W1 W2 := ((below_a1 W1 (.cells #[strV kId] 9)).alloc (by simp) _).trans (hb1.mono (by simp; omega))
 have hkb : Blk W2 gk ([kId].map strV).toArray 9 := by rw [hgk]; exact ((Blk.new rfl).alloc _).ext hb1
 have hlb : Blk W2 gl ([c.other].flatMap VD.cells).toArray 26 := by rw [hgl]; simp only [List.flatMap_cons, List.flatMap_nil, List.append_nil]; rw [val_arr]; exact (Blk.new (by simp)).ext hb1
 have HGK : Hid (w.heap.size + 2 ≤ gk) := Lib.hid (by rw [hgk]; exact HL.out.2.2.lt)
 have HGL : Hid (w.heap.size + 2 ≤ gl) := Lib.hid (by rw [hgl]; have := HL.out.2.2.lt; omega)
 have HX : Hid (ValAt W2 (fun g => (P g ∧ g < w.heap.size) ∨ w.heap.size + 2 ≤ g) (recD gk gl [kId] [c.other] 1 1)) := Lib.hid (recD_at hkb hlb (.inr HGK.out) (.inr HGL.out) fun y hy => by
  rw [List.mem_singleton] at hy; subst hy; exact (HOV.out.mono fun g hg _ => .inl hg).ext hb)
 rw [← hgl, ← hgk]
 clear hb1 hkb hlb
 have HLn : Hid (Below w.heap.size w W2 ∧ Blk W2 w.heap.size (cdC c) 31 ∧ Blk W2 (w.heap.size + 1) #[.int .i64 0, .bool false, .int .i64 0, .string { data := #[] }, .slice none 0 0, .slice none 0 0] 26) := Lib.hid (⟨HL.out.1.trans (hb.mono HL.out.1.size), HL.out.2.1.ext hb, HL.out.2.2.ext hb⟩)
 clear HL hb
 have HL := HLn
 clear HLn
 have f0 := HL.out.2.2.free 0
 have f1 := HL.out.2.2.free 1
 have f2 := HL.out.2.2.free 2
 have f3 := HL.out.2.2.free 3
 have f4 := HL.out.2.2.free 4
 have f5 := HL.out.2.2.free 5
 obtain ⟨z0, z1, z2, z3, z4, z5⟩ := HL.out.2.2.sixT
 clear hgk hgl
 go_wp2
 have hne : ∀ g, ((P g ∧ g < w.heap.size) ∨ w.heap.size + 2 ≤ g) → g ≠ w.heap.size + 1 := fun g hg => by
  rcases hg with hg | hg
  ·
   have := hg.2; omega
  ·
   omega
 refine toldR_end (g := w.heap.size + 1) rfl (store6T HL.out.2.2) ?_
 refine ⟨recD gk gl [kId] [c.other] 1 1, rfl, ?_, (HX.out.congr fun g hg _ => put6_other (hne g hg)).mono fun g hg _ => hg.elim (fun h => h.1) (fun h => HP.out g (by omega)), put6_below (o := 0) HL.out.1 (by omega)⟩
 rw [recD_v]
 have hkk : c.k.kind = 9 := by show c.kind.toNat = 9; rw [HK.out]; rfl
 unfold paramsW
 rw [if_pos hkk]
 rfl
set_option maxHeartbeats 16000000 in
set_option maxRecDepth 20000 in
theorem toldR_6 (P : Nat → Prop) (c : CD) (w : World) (hP : ∀ g, w.heap.size ≤ g → P g) (hk : c.kind = 6) (hc : ValAt w P c.other) (hrow : Row w 6 c.a c.changes.length (c.changes.flatMap E.cells)) (hn : c.changes.length ≤ 1048576) :
  Calls Tryz.prog 58 #[.agg (cdC c)] w (DocP w P (paramsW c.k)) := by
 obtain ⟨W1, hW1⟩ : ∃ q, q = (w.alloc (.cells (cdC c) 31)).alloc (.cells #[.int .i64 0, .bool false, .int .i64 0, .string { data := #[] }, .slice none 0 0, .slice none 0 0] 26) := ⟨_, rfl⟩
 have hb0 : Below w.heap.size w W1 := by rw [hW1]; exact (below_a1 w _).alloc (by simp) _
 have HL : Hid (Below w.heap.size w W1 ∧ Blk W1 w.heap.size (cdC c) 31 ∧ Blk W1 (w.heap.size + 1) #[.int .i64 0, .bool false, .int .i64 0, .string { data := #[] }, .slice none 0 0, .slice none 0 0] 26) := Lib.hid ⟨hb0, by rw [hW1]; exact (Blk.new rfl).alloc _, by rw [hW1]; exact Blk.new (by simp)⟩
 have HP := Lib.hid hP
 have HOV : Hid (ValAt W1 (fun g => P g ∧ g < w.heap.size) c.other) := Lib.hid ((hc.mono fun g h1 h2 => ⟨h1, h2⟩).ext hb0)
 have HCR := Lib.hid hrow
 have HCL := Lib.hid hn
 have HK := Lib.hid hk
 have c0 : W1.cell? ⟨w.heap.size, 0, none⟩ = some (.int .i64 6) := by rw [← hk]; exact HL.out.2.1.cell 0
 clear hb0 hP hc hrow hn hk
 go_enter Tryz.func58, Tryz.ntmps58
 go_upto_region 1 with (fail)
 rw [← hW1]
 clear hW1
 go_upto_region 3 with (fail)
 clear c0 HOV
 have hwl := HL.out.2.1.lt
 have c7 : W1.cell? ⟨w.heap.size, 7, none⟩ = some (.string ⟨c.name.toArray⟩) := HL.out.2.1.cell 7
 go_wp2_with fail
 refine (strR_any c.name (W1.alloc (.cells #[strV kUri] 9))).mono ?_
 rintro e W2 ⟨rfl, hb1⟩
 clear c7 hwl
 obtain ⟨gk, hgk⟩ : ∃ q, q = W1.heap.size := ⟨_, rfl⟩
 have hb : Below W1.heap.size W1 W2 := (below_a1 W1 (.cells #[strV kUri] 9)).trans (hb1.mono (by simp))
 have hkb : Blk W2 gk #[strV kUri] 9 := by rw [hgk]; exact (Blk.new rfl).ext hb1
 have HGK : Hid (w.heap.size + 2 ≤ gk) := Lib.hid (by rw [hgk]; exact HL.out.2.2.lt)
 obtain ⟨gl, hgl⟩ : ∃ q, q = W2.heap.size := ⟨_, rfl⟩
 obtain ⟨W3, hQ⟩ : ∃ q, q = W2.alloc (.cells #[.int .i64 3, .bool false, .int .i64 0, .string ⟨c.name.toArray⟩, .slice none 0 0, .slice none 0 0] 26) := ⟨_, rfl⟩
 have hb2 : Below W2.heap.size W2 W3 := by rw [hQ]; exact below_a1 _ _
 have HS : Hid (ToS w (fun k => w.heap.size + 2 ≤ k) c (some ⟨gk, 0, none⟩) 1 [kUri] (some ⟨gl, 0, none⟩) 1 [strD c.name] W3) := Lib.hid ⟨(HL.out.1.trans (hb.mono HL.out.1.size)).trans (hb2.mono (by have := hb.size; have := HL.out.1.size; omega)), (HL.out.2.1.ext hb).ext hb2, (HL.out.2.2.ext hb).ext hb2, own_blk (hkb.ext hb2) HGK.out rfl (by simp [maxLen]), own_blk (n := 1) (cs := (strD c.name).cells.toArray) (T := 26) (by rw [hQ, hgl]; exact Blk.new rfl) (by have := (HL.out.2.2.ext hb).lt; omega) rfl (by simp [maxLen]), fun y hy => by
  rw [List.mem_singleton] at hy; subst hy; exact .leaf⟩
 clear hb hb1 hb2 hkb HL HGK
 go_upto_region 5 with (fail)
 rw [← hgk, ← hQ, ← hgl]
 clear hgk hgl hQ
 have c0 : W3.cell? ⟨w.heap.size, 0, none⟩ = some (.int .i64 6) := by rw [← HK.out]; exact HS.out.cb.cell 0
 go_upto_region 11 with (fail)
 clear c0
 go_wp2_with fail
 refine (recR_any (some ⟨gk, 0, none⟩) (some ⟨gl, 0, none⟩) 1 1 1 1 W3).mono ?_
 rintro e Wr ⟨rfl, hb⟩
 have HSr := Lib.hid (HS.out.ext hb)
 obtain ⟨d5, hd5⟩ : ∃ q, q = VD.mk 5 false 0 [] (some ⟨gl, 0, none⟩) 1 [strD c.name] (some ⟨gk, 0, none⟩) 1 [kUri] := ⟨_, rfl⟩
 obtain ⟨gd, hg⟩ : ∃ q, q = Wr.heap.size := ⟨_, rfl⟩
 obtain ⟨W5, hQ⟩ : ∃ q, q = Wr.alloc (.cells #[.int .i64 5, .bool false, .int .i64 0, .string { data := #[] }, .slice (some ⟨gl, 0, none⟩) 1 1, .slice (some ⟨gk, 0, none⟩) 1 1] 26) := ⟨_, rfl⟩
 have hb5 : Below Wr.heap.size Wr W5 := by rw [hQ]; exact below_a1 _ _
 have HL : Hid (Below w.heap.size w W5 ∧ Blk W5 w.heap.size (cdC c) 31 ∧ Blk W5 (w.heap.size + 1) #[.int .i64 0, .bool false, .int .i64 0, .string { data := #[] }, .slice none 0 0, .slice none 0 0] 26 ∧ Blk W5 gd #[.int .i64 d5.sort, .bool d5.on, .int .i64 d5.n, .string ⟨d5.text.toArray⟩, .slice d5.a d5.list.length d5.c, .slice d5.ka d5.keys.length d5.kc] 26 ∧ ValAt W5 (fun k => w.heap.size + 2 ≤ k) d5) := Lib.hid ⟨(HSr.out.ext hb5).below, (HSr.out.ext hb5).cb, (HSr.out.ext hb5).rb, by rw [hQ, hg, hd5]; exact Blk.new rfl, by rw [hd5]; exact (HSr.out.ext hb5).rcd (fun _ h => h)⟩
 have HDV : Hid (d5.v = recW [(kUri, strW c.name)]) := Lib.hid (by rw [hd5, VD.v_eq]; rfl)
 clear hd5 hb hb5 HS HSr
 go_upto_region 12 with (fail)
 rw [← hQ, ← hg]
 clear hQ hg
 have c0 : W5.cell? ⟨w.heap.size, 0, none⟩ = some (.int .i64 6) := by rw [← HK.out]; exact HL.out.2.1.cell 0
 go_upto_region 17 with (fail)
 clear c0
 obtain ⟨d0, d1, d2, d3, d4, d6⟩ := HL.out.2.2.2.1.sixT
 have hwl := HL.out.2.2.2.1.lt
 go_wp2_with fail
 refine (recR_any (some ⟨W5.heap.size, 0, none⟩) (some ⟨W5.heap.size + 1, 0, none⟩) 1 1 1 1 ((W5.alloc (.cells #[strV kDoc] 9)).alloc (.cells #[.int .i64 d5.sort, .bool d5.on, .int .i64 d5.n, .string ⟨d5.text.toArray⟩, .slice d5.a d5.list.length d5.c, .slice d5.ka d5.keys.length d5.kc] 26))).mono ?_
 rintro e W6 ⟨rfl, hb1⟩
 clear d0 d1 d2 d3 d4 d6 hwl
 obtain ⟨gk, hgk⟩ : ∃ q, q = W5.heap.size := ⟨_, rfl⟩
 obtain ⟨gl, hgl⟩ : ∃ q, q = W5.heap.size + 1 := ⟨_, rfl⟩
 have hb : Below W5.heap.size W5 W6 := ((below_a1 W5 (.cells #[strV kDoc] 9)).alloc (by simp) _).trans (hb1.mono (by simp; omega))
 have hkb : Blk W6 gk ([kDoc].map strV).toArray 9 := by rw [hgk]; exact ((Blk.new rfl).alloc _).ext hb1
 have hlb : Blk W6 gl ([d5].flatMap VD.cells).toArray 26 := by rw [hgl]; simp only [List.flatMap_cons, List.flatMap_nil, List.append_nil]; rw [val_arr]; exact (Blk.new (by simp)).ext hb1
 have HGK : Hid (w.heap.size + 2 ≤ gk) := Lib.hid (by rw [hgk]; exact HL.out.2.2.1.lt)
 have HGL : Hid (w.heap.size + 2 ≤ gl) := Lib.hid (by rw [hgl]; have := HL.out.2.2.1.lt; omega)
 have HX : Hid (ValAt W6 (fun k => w.heap.size + 2 ≤ k) (recD gk gl [kDoc] [d5] 1 1)) := Lib.hid (recD_at hkb hlb HGK.out HGL.out fun y hy => by
  rw [List.mem_singleton] at hy; subst hy; exact HL.out.2.2.2.2.ext hb)
 rw [← hgl, ← hgk]
 clear hb1 hkb hlb
 have HLn : Hid (Below w.heap.size w W6 ∧ Blk W6 w.heap.size (cdC c) 31 ∧ Blk W6 (w.heap.size + 1) #[.int .i64 0, .bool false, .int .i64 0, .string { data := #[] }, .slice none 0 0, .slice none 0 0] 26 ∧ Blk W6 gd #[.int .i64 d5.sort, .bool d5.on, .int .i64 d5.n, .string ⟨d5.text.toArray⟩, .slice d5.a d5.list.length d5.c, .slice d5.ka d5.keys.length d5.kc] 26 ∧ ValAt W6 (fun k => w.heap.size + 2 ≤ k) d5) := Lib.hid (⟨HL.out.1.trans (hb.mono HL.out.1.size), HL.out.2.1.ext hb, HL.out.2.2.1.ext hb, HL.out.2.2.2.1.ext hb, HL.out.2.2.2.2.ext hb⟩)
 clear HL hb
 have HL := HLn
 clear HLn
 have f0 := HL.out.2.2.1.free 0
 have f1 := HL.out.2.2.1.free 1
 have f2 := HL.out.2.2.1.free 2
 have f3 := HL.out.2.2.1.free 3
 have f4 := HL.out.2.2.1.free 4
 have f5 := HL.out.2.2.1.free 5
 obtain ⟨z0, z1, z2, z3, z4, z5⟩ := HL.out.2.2.1.sixT
 clear hgk hgl
 go_wp2
 refine toldR_end (g := w.heap.size + 1) rfl (store6T HL.out.2.2.1) ?_
 refine ⟨recD gk gl [kDoc] [d5] 1 1, rfl, ?_, (HX.out.congr fun g hg _ => put6_other (by omega)).mono fun g hg _ => HP.out g (by omega), put6_below (o := 0) HL.out.1 (by omega)⟩
 rw [recD_v, List.map_singleton, HDV.out]
 have hkk : c.k.kind = 6 := by show c.kind.toNat = 6; rw [HK.out]; rfl
 unfold paramsW; rw [if_neg (by rw [hkk]; decide), if_neg (by rw [hkk]; decide), if_neg (by rw [hkk]; decide), if_neg (by rw [hkk]; decide), if_neg (by rw [hkk]; decide)]
 rfl
set_option maxHeartbeats 16000000 in
set_option maxRecDepth 20000 in
theorem toldR_8 (P : Nat → Prop) (c : CD) (w : World) (hP : ∀ g, w.heap.size ≤ g → P g) (hk : c.kind = 8) (hc : ValAt w P c.other) (hrow : Row w 6 c.a c.changes.length (c.changes.flatMap E.cells)) (hn : c.changes.length ≤ 1048576) :
  Calls Tryz.prog 58 #[.agg (cdC c)] w (DocP w P (paramsW c.k)) := by
 obtain ⟨W1, hW1⟩ : ∃ q, q = (w.alloc (.cells (cdC c) 31)).alloc (.cells #[.int .i64 0, .bool false, .int .i64 0, .string { data := #[] }, .slice none 0 0, .slice none 0 0] 26) := ⟨_, rfl⟩
 have hb0 : Below w.heap.size w W1 := by rw [hW1]; exact (below_a1 w _).alloc (by simp) _
 have HL : Hid (Below w.heap.size w W1 ∧ Blk W1 w.heap.size (cdC c) 31 ∧ Blk W1 (w.heap.size + 1) #[.int .i64 0, .bool false, .int .i64 0, .string { data := #[] }, .slice none 0 0, .slice none 0 0] 26) := Lib.hid ⟨hb0, by rw [hW1]; exact (Blk.new rfl).alloc _, by rw [hW1]; exact Blk.new (by simp)⟩
 have HP := Lib.hid hP
 have HOV : Hid (ValAt W1 (fun g => P g ∧ g < w.heap.size) c.other) := Lib.hid ((hc.mono fun g h1 h2 => ⟨h1, h2⟩).ext hb0)
 have HCR := Lib.hid hrow
 have HCL := Lib.hid hn
 have HK := Lib.hid hk
 have c0 : W1.cell? ⟨w.heap.size, 0, none⟩ = some (.int .i64 8) := by rw [← hk]; exact HL.out.2.1.cell 0
 clear hb0 hP hc hrow hn hk
 go_enter Tryz.func58, Tryz.ntmps58
 go_upto_region 1 with (fail)
 rw [← hW1]
 clear hW1
 go_upto_region 3 with (fail)
 clear c0 HOV
 have hwl := HL.out.2.1.lt
 have c7 : W1.cell? ⟨w.heap.size, 7, none⟩ = some (.string ⟨c.name.toArray⟩) := HL.out.2.1.cell 7
 go_wp2_with fail
 refine (strR_any c.name (W1.alloc (.cells #[strV kUri] 9))).mono ?_
 rintro e W2 ⟨rfl, hb1⟩
 clear c7 hwl
 obtain ⟨gk, hgk⟩ : ∃ q, q = W1.heap.size := ⟨_, rfl⟩
 have hb : Below W1.heap.size W1 W2 := (below_a1 W1 (.cells #[strV kUri] 9)).trans (hb1.mono (by simp))
 have hkb : Blk W2 gk #[strV kUri] 9 := by rw [hgk]; exact (Blk.new rfl).ext hb1
 have HGK : Hid (w.heap.size + 2 ≤ gk) := Lib.hid (by rw [hgk]; exact HL.out.2.2.lt)
 obtain ⟨gl, hgl⟩ : ∃ q, q = W2.heap.size := ⟨_, rfl⟩
 obtain ⟨W3, hQ⟩ : ∃ q, q = W2.alloc (.cells #[.int .i64 3, .bool false, .int .i64 0, .string ⟨c.name.toArray⟩, .slice none 0 0, .slice none 0 0] 26) := ⟨_, rfl⟩
 have hb2 : Below W2.heap.size W2 W3 := by rw [hQ]; exact below_a1 _ _
 have HS : Hid (ToS w (fun k => w.heap.size + 2 ≤ k) c (some ⟨gk, 0, none⟩) 1 [kUri] (some ⟨gl, 0, none⟩) 1 [strD c.name] W3) := Lib.hid ⟨(HL.out.1.trans (hb.mono HL.out.1.size)).trans (hb2.mono (by have := hb.size; have := HL.out.1.size; omega)), (HL.out.2.1.ext hb).ext hb2, (HL.out.2.2.ext hb).ext hb2, own_blk (hkb.ext hb2) HGK.out rfl (by simp [maxLen]), own_blk (n := 1) (cs := (strD c.name).cells.toArray) (T := 26) (by rw [hQ, hgl]; exact Blk.new rfl) (by have := (HL.out.2.2.ext hb).lt; omega) rfl (by simp [maxLen]), fun y hy => by
  rw [List.mem_singleton] at hy; subst hy; exact .leaf⟩
 clear hb hb1 hb2 hkb HL HGK
 go_upto_region 5 with (fail)
 rw [← hgk, ← hQ, ← hgl]
 clear hgk hgl hQ
 have c0 : W3.cell? ⟨w.heap.size, 0, none⟩ = some (.int .i64 8) := by rw [← HK.out]; exact HS.out.cb.cell 0
 go_upto_region 11 with (fail)
 clear c0
 go_wp2_with fail
 refine (recR_any (some ⟨gk, 0, none⟩) (some ⟨gl, 0, none⟩) 1 1 1 1 W3).mono ?_
 rintro e Wr ⟨rfl, hb⟩
 have HSr := Lib.hid (HS.out.ext hb)
 obtain ⟨d5, hd5⟩ : ∃ q, q = VD.mk 5 false 0 [] (some ⟨gl, 0, none⟩) 1 [strD c.name] (some ⟨gk, 0, none⟩) 1 [kUri] := ⟨_, rfl⟩
 obtain ⟨gd, hg⟩ : ∃ q, q = Wr.heap.size := ⟨_, rfl⟩
 obtain ⟨W5, hQ⟩ : ∃ q, q = Wr.alloc (.cells #[.int .i64 5, .bool false, .int .i64 0, .string { data := #[] }, .slice (some ⟨gl, 0, none⟩) 1 1, .slice (some ⟨gk, 0, none⟩) 1 1] 26) := ⟨_, rfl⟩
 have hb5 : Below Wr.heap.size Wr W5 := by rw [hQ]; exact below_a1 _ _
 have HL : Hid (Below w.heap.size w W5 ∧ Blk W5 w.heap.size (cdC c) 31 ∧ Blk W5 (w.heap.size + 1) #[.int .i64 0, .bool false, .int .i64 0, .string { data := #[] }, .slice none 0 0, .slice none 0 0] 26 ∧ Blk W5 gd #[.int .i64 d5.sort, .bool d5.on, .int .i64 d5.n, .string ⟨d5.text.toArray⟩, .slice d5.a d5.list.length d5.c, .slice d5.ka d5.keys.length d5.kc] 26 ∧ ValAt W5 (fun k => w.heap.size + 2 ≤ k) d5) := Lib.hid ⟨(HSr.out.ext hb5).below, (HSr.out.ext hb5).cb, (HSr.out.ext hb5).rb, by rw [hQ, hg, hd5]; exact Blk.new rfl, by rw [hd5]; exact (HSr.out.ext hb5).rcd (fun _ h => h)⟩
 have HDV : Hid (d5.v = recW [(kUri, strW c.name)]) := Lib.hid (by rw [hd5, VD.v_eq]; rfl)
 clear hd5 hb hb5 HS HSr
 go_upto_region 12 with (fail)
 rw [← hQ, ← hg]
 clear hQ hg
 have c0 : W5.cell? ⟨w.heap.size, 0, none⟩ = some (.int .i64 8) := by rw [← HK.out]; exact HL.out.2.1.cell 0
 go_upto_region 17 with (fail)
 clear c0
 obtain ⟨d0, d1, d2, d3, d4, d6⟩ := HL.out.2.2.2.1.sixT
 have hwl := HL.out.2.2.2.1.lt
 go_wp2_with fail
 refine (recR_any (some ⟨W5.heap.size, 0, none⟩) (some ⟨W5.heap.size + 1, 0, none⟩) 1 1 1 1 ((W5.alloc (.cells #[strV kDoc] 9)).alloc (.cells #[.int .i64 d5.sort, .bool d5.on, .int .i64 d5.n, .string ⟨d5.text.toArray⟩, .slice d5.a d5.list.length d5.c, .slice d5.ka d5.keys.length d5.kc] 26))).mono ?_
 rintro e W6 ⟨rfl, hb1⟩
 clear d0 d1 d2 d3 d4 d6 hwl
 obtain ⟨gk, hgk⟩ : ∃ q, q = W5.heap.size := ⟨_, rfl⟩
 obtain ⟨gl, hgl⟩ : ∃ q, q = W5.heap.size + 1 := ⟨_, rfl⟩
 have hb : Below W5.heap.size W5 W6 := ((below_a1 W5 (.cells #[strV kDoc] 9)).alloc (by simp) _).trans (hb1.mono (by simp; omega))
 have hkb : Blk W6 gk ([kDoc].map strV).toArray 9 := by rw [hgk]; exact ((Blk.new rfl).alloc _).ext hb1
 have hlb : Blk W6 gl ([d5].flatMap VD.cells).toArray 26 := by rw [hgl]; simp only [List.flatMap_cons, List.flatMap_nil, List.append_nil]; rw [val_arr]; exact (Blk.new (by simp)).ext hb1
 have HGK : Hid (w.heap.size + 2 ≤ gk) := Lib.hid (by rw [hgk]; exact HL.out.2.2.1.lt)
 have HGL : Hid (w.heap.size + 2 ≤ gl) := Lib.hid (by rw [hgl]; have := HL.out.2.2.1.lt; omega)
 have HX : Hid (ValAt W6 (fun k => w.heap.size + 2 ≤ k) (recD gk gl [kDoc] [d5] 1 1)) := Lib.hid (recD_at hkb hlb HGK.out HGL.out fun y hy => by
  rw [List.mem_singleton] at hy; subst hy; exact HL.out.2.2.2.2.ext hb)
 rw [← hgl, ← hgk]
 clear hb1 hkb hlb
 have HLn : Hid (Below w.heap.size w W6 ∧ Blk W6 w.heap.size (cdC c) 31 ∧ Blk W6 (w.heap.size + 1) #[.int .i64 0, .bool false, .int .i64 0, .string { data := #[] }, .slice none 0 0, .slice none 0 0] 26 ∧ Blk W6 gd #[.int .i64 d5.sort, .bool d5.on, .int .i64 d5.n, .string ⟨d5.text.toArray⟩, .slice d5.a d5.list.length d5.c, .slice d5.ka d5.keys.length d5.kc] 26 ∧ ValAt W6 (fun k => w.heap.size + 2 ≤ k) d5) := Lib.hid (⟨HL.out.1.trans (hb.mono HL.out.1.size), HL.out.2.1.ext hb, HL.out.2.2.1.ext hb, HL.out.2.2.2.1.ext hb, HL.out.2.2.2.2.ext hb⟩)
 clear HL hb
 have HL := HLn
 clear HLn
 have f0 := HL.out.2.2.1.free 0
 have f1 := HL.out.2.2.1.free 1
 have f2 := HL.out.2.2.1.free 2
 have f3 := HL.out.2.2.1.free 3
 have f4 := HL.out.2.2.1.free 4
 have f5 := HL.out.2.2.1.free 5
 obtain ⟨z0, z1, z2, z3, z4, z5⟩ := HL.out.2.2.1.sixT
 clear hgk hgl
 go_wp2
 refine toldR_end (g := w.heap.size + 1) rfl (store6T HL.out.2.2.1) ?_
 refine ⟨recD gk gl [kDoc] [d5] 1 1, rfl, ?_, (HX.out.congr fun g hg _ => put6_other (by omega)).mono fun g hg _ => HP.out g (by omega), put6_below (o := 0) HL.out.1 (by omega)⟩
 rw [recD_v, List.map_singleton, HDV.out]
 have hkk : c.k.kind = 8 := by show c.kind.toNat = 8; rw [HK.out]; rfl
 unfold paramsW; rw [if_neg (by rw [hkk]; decide), if_neg (by rw [hkk]; decide), if_neg (by rw [hkk]; decide), if_neg (by rw [hkk]; decide), if_neg (by rw [hkk]; decide)]
 rfl
set_option maxHeartbeats 16000000 in
set_option maxRecDepth 20000 in
theorem toldR_7 (P : Nat → Prop) (c : CD) (w : World) (hP : ∀ g, w.heap.size ≤ g → P g) (hk : c.kind = 7) (hc : ValAt w P c.other) (hrow : Row w 6 c.a c.changes.length (c.changes.flatMap E.cells)) (hn : c.changes.length ≤ 1048576) :
  Calls Tryz.prog 58 #[.agg (cdC c)] w (DocP w P (paramsW c.k)) := by
 obtain ⟨W1, hW1⟩ : ∃ q, q = (w.alloc (.cells (cdC c) 31)).alloc (.cells #[.int .i64 0, .bool false, .int .i64 0, .string { data := #[] }, .slice none 0 0, .slice none 0 0] 26) := ⟨_, rfl⟩
 have hb0 : Below w.heap.size w W1 := by rw [hW1]; exact (below_a1 w _).alloc (by simp) _
 have HL : Hid (Below w.heap.size w W1 ∧ Blk W1 w.heap.size (cdC c) 31 ∧ Blk W1 (w.heap.size + 1) #[.int .i64 0, .bool false, .int .i64 0, .string { data := #[] }, .slice none 0 0, .slice none 0 0] 26) := Lib.hid ⟨hb0, by rw [hW1]; exact (Blk.new rfl).alloc _, by rw [hW1]; exact Blk.new (by simp)⟩
 have HP := Lib.hid hP
 have HOV : Hid (ValAt W1 (fun g => P g ∧ g < w.heap.size) c.other) := Lib.hid ((hc.mono fun g h1 h2 => ⟨h1, h2⟩).ext hb0)
 have HCR := Lib.hid hrow
 have HCL := Lib.hid hn
 have HK := Lib.hid hk
 have c0 : W1.cell? ⟨w.heap.size, 0, none⟩ = some (.int .i64 7) := by rw [← hk]; exact HL.out.2.1.cell 0
 clear hb0 hP hc hrow hn hk
 go_enter Tryz.func58, Tryz.ntmps58
 go_upto_region 1 with (fail)
 rw [← hW1]
 clear hW1
 go_upto_region 3 with (fail)
 clear c0 HOV
 have hwl := HL.out.2.1.lt
 have c7 : W1.cell? ⟨w.heap.size, 7, none⟩ = some (.string ⟨c.name.toArray⟩) := HL.out.2.1.cell 7
 go_wp2_with fail
 refine (strR_any c.name (W1.alloc (.cells #[strV kUri] 9))).mono ?_
 rintro e W2 ⟨rfl, hb1⟩
 clear c7 hwl
 obtain ⟨gk, hgk⟩ : ∃ q, q = W1.heap.size := ⟨_, rfl⟩
 have hb : Below W1.heap.size W1 W2 := (below_a1 W1 (.cells #[strV kUri] 9)).trans (hb1.mono (by simp))
 have hkb : Blk W2 gk #[strV kUri] 9 := by rw [hgk]; exact (Blk.new rfl).ext hb1
 have HGK : Hid (w.heap.size + 2 ≤ gk) := Lib.hid (by rw [hgk]; exact HL.out.2.2.lt)
 obtain ⟨gl, hgl⟩ : ∃ q, q = W2.heap.size := ⟨_, rfl⟩
 obtain ⟨W3, hQ⟩ : ∃ q, q = W2.alloc (.cells #[.int .i64 3, .bool false, .int .i64 0, .string ⟨c.name.toArray⟩, .slice none 0 0, .slice none 0 0] 26) := ⟨_, rfl⟩
 have hb2 : Below W2.heap.size W2 W3 := by rw [hQ]; exact below_a1 _ _
 have HS : Hid (ToS w (fun k => w.heap.size + 2 ≤ k) c (some ⟨gk, 0, none⟩) 1 [kUri] (some ⟨gl, 0, none⟩) 1 [strD c.name] W3) := Lib.hid ⟨(HL.out.1.trans (hb.mono HL.out.1.size)).trans (hb2.mono (by have := hb.size; have := HL.out.1.size; omega)), (HL.out.2.1.ext hb).ext hb2, (HL.out.2.2.ext hb).ext hb2, own_blk (hkb.ext hb2) HGK.out rfl (by simp [maxLen]), own_blk (n := 1) (cs := (strD c.name).cells.toArray) (T := 26) (by rw [hQ, hgl]; exact Blk.new rfl) (by have := (HL.out.2.2.ext hb).lt; omega) rfl (by simp [maxLen]), fun y hy => by
  rw [List.mem_singleton] at hy; subst hy; exact .leaf⟩
 clear hb hb1 hb2 hkb HL HGK
 go_upto_region 5 with (fail)
 rw [← hgk, ← hQ, ← hgl]
 clear hgk hgl hQ
 have c0 : W3.cell? ⟨w.heap.size, 0, none⟩ = some (.int .i64 7) := by rw [← HK.out]; exact HS.out.cb.cell 0
 go_upto_region 11 with (fail)
 clear c0
 go_wp2_with fail
 refine (recR_any (some ⟨gk, 0, none⟩) (some ⟨gl, 0, none⟩) 1 1 1 1 W3).mono ?_
 rintro e Wr ⟨rfl, hb⟩
 have HSr := Lib.hid (HS.out.ext hb)
 obtain ⟨d5, hd5⟩ : ∃ q, q = VD.mk 5 false 0 [] (some ⟨gl, 0, none⟩) 1 [strD c.name] (some ⟨gk, 0, none⟩) 1 [kUri] := ⟨_, rfl⟩
 obtain ⟨gd, hg⟩ : ∃ q, q = Wr.heap.size := ⟨_, rfl⟩
 obtain ⟨W5, hQ⟩ : ∃ q, q = Wr.alloc (.cells #[.int .i64 5, .bool false, .int .i64 0, .string { data := #[] }, .slice (some ⟨gl, 0, none⟩) 1 1, .slice (some ⟨gk, 0, none⟩) 1 1] 26) := ⟨_, rfl⟩
 have hb5 : Below Wr.heap.size Wr W5 := by rw [hQ]; exact below_a1 _ _
 have HL : Hid (Below w.heap.size w W5 ∧ Blk W5 w.heap.size (cdC c) 31 ∧ Blk W5 (w.heap.size + 1) #[.int .i64 0, .bool false, .int .i64 0, .string { data := #[] }, .slice none 0 0, .slice none 0 0] 26 ∧ Blk W5 gd #[.int .i64 d5.sort, .bool d5.on, .int .i64 d5.n, .string ⟨d5.text.toArray⟩, .slice d5.a d5.list.length d5.c, .slice d5.ka d5.keys.length d5.kc] 26 ∧ ValAt W5 (fun k => w.heap.size + 2 ≤ k) d5) := Lib.hid ⟨(HSr.out.ext hb5).below, (HSr.out.ext hb5).cb, (HSr.out.ext hb5).rb, by rw [hQ, hg, hd5]; exact Blk.new rfl, by rw [hd5]; exact (HSr.out.ext hb5).rcd (fun _ h => h)⟩
 have HDV : Hid (d5.v = recW [(kUri, strW c.name)]) := Lib.hid (by rw [hd5, VD.v_eq]; rfl)
 clear hd5 hb hb5 HS HSr
 go_upto_region 12 with (fail)
 rw [← hQ, ← hg]
 clear hQ hg
 have c0 : W5.cell? ⟨w.heap.size, 0, none⟩ = some (.int .i64 7) := by rw [← HK.out]; exact HL.out.2.1.cell 0
 go_upto_region 16 with (fail)
 clear c0
 have HB9 : Hid (Below W5.heap.size W5 W5.drew) := Lib.hid (Below.refl _ _).drew
 have HPP : Hid (∀ j, W5.heap.size ≤ j → w.heap.size + 2 ≤ j) := Lib.hid fun j hj => by have := HL.out.2.2.1.lt; omega
 have HDA := Lib.hid HL.out.2.2.2.2
 have HK9 : Hid (∀ W, Below W5.heap.size W5 W → Blk W w.heap.size (cdC c) 31 ∧ Blk W gd #[.int .i64 d5.sort, .bool d5.on, .int .i64 d5.n, .string ⟨d5.text.toArray⟩, .slice d5.a d5.list.length d5.c, .slice d5.ka d5.keys.length d5.kc] 26) := Lib.hid fun W h => ⟨HL.out.2.1.ext h, HL.out.2.2.2.1.ext h⟩
 have HGVB : Hid (∀ W, Below W5.heap.size W5 W → Blk W (w.heap.size + 1) #[.int .i64 0, .bool false, .int .i64 0, .string { data := #[] }, .slice none 0 0, .slice none 0 0] 26) := Lib.hid fun W h => HL.out.2.2.1.ext h
 have HNE : Hid (w.heap.size ≠ w.heap.size + 1 ∧ gd ≠ w.heap.size + 1) := Lib.hid ⟨by omega, fun q => by
  have h1 := HL.out.2.2.2.1
  rw [q] at h1
  have h2 := h1.symm.trans HL.out.2.2.1
  injection h2 with h2
  injection h2 with h3 _ _
  have h4 := congrArg (fun a : Array Value => a[0]?) h3
  simp at h4
  have h5 : d5.sort = 5 := by first | (rw [← vd_sort, HDV.out]; done) | (rw [← vd_sort, HDV.out]; rfl)
  omega⟩
 have HBW := Lib.hid HL.out.1
 refine wp_region_held_drew (S := (fun w' => Blk w' w.heap.size (cdC c) 31 ∧ Blk w' gd #[.int .i64 d5.sort, .bool d5.on, .int .i64 d5.n, .string ⟨d5.text.toArray⟩, .slice d5.a d5.list.length d5.c, .slice d5.ka d5.keys.length d5.kc] 26)) (by kernel_rfl) ?_ (fun hHeld => ?_)
 ·
  exact HK9.out _ HB9.out
 refine wpAnyH_take (i := 1) (oi := ⟨some 65, _, _, _, _, _⟩) (v := ?_) rfl (by kernel_rfl) (by kernel_rfl) (by kernel_rfl) (fun _ _ _ h => h) (Or.inl ⟨by rfl, ?_⟩) (by assumption) ?_; rotate_left; focus (intro w hSw; (try dsimp only at hSw); obtain ⟨c0, c1, c2, c3, c4, c5⟩ := Blk.sixT hSw.2; first | (go_simp; done) | (go_simp; with_reducible rfl))
 try simp only [Act.put, List.setIfInBounds_toArray, List.set_cons_succ, List.set_cons_zero]
 refine wpAnyH_take (i := 2) (oi := ⟨some 66, _, _, _, _, _⟩) (v := ?_) rfl (by kernel_rfl) (by kernel_rfl) (by kernel_rfl) (fun _ _ _ h => h) (Or.inl ⟨by rfl, ?_⟩) (by assumption) ?_; rotate_left; focus (intro w hSw; (try dsimp only at hSw); first | (go_simp; done) | (go_simp; with_reducible rfl))
 try simp only [Act.put, List.setIfInBounds_toArray, List.set_cons_succ, List.set_cons_zero]
 refine wpAnyH_take (i := 3) (oi := ⟨some 67, _, _, _, _, _⟩) (v := ?_) rfl (by kernel_rfl) (by kernel_rfl) (by kernel_rfl) (fun _ _ _ h => h) (Or.inl ⟨by rfl, ?_⟩) (by assumption) ?_; rotate_left; focus (intro w hSw; (try dsimp only at hSw); have b11 := Blk.cell hSw.1 11; have b12 := Blk.cell hSw.1 12; unfold cdC at b11 b12; simp only [List.getElem?_toArray, List.getElem?_cons_zero, List.getElem?_cons_succ] at b11 b12; first | (go_simp; done) | (go_simp; with_reducible rfl))
 try simp only [Act.put, List.setIfInBounds_toArray, List.set_cons_succ, List.set_cons_zero]
 refine wpAnyH_invF [64, 68, 69, 70] [1, 2, 3] (fun D s W => R16 W5 (fun k => w.heap.size + 2 ≤ k) (w.heap.size + 1) [kDoc, kPosition] (atW c.pl c.pu) d5.v (recW [(kDoc, d5.v), (kPosition, atW c.pl c.pu)]) D s W ∧ (D 7 = true → Blk W w.heap.size (cdC c) 31 ∧ Blk W gd #[.int .i64 d5.sort, .bool d5.on, .int .i64 d5.n, .string ⟨d5.text.toArray⟩, .slice d5.a d5.list.length d5.c, .slice d5.ka d5.keys.length d5.kc] 26)) (by kernel_rfl) (by rfl) (by kernel_rfl) (by kernel_rfl) (Nat.le_of_ble_eq_true (by kernel_rfl)) ?_ ?_ ?_ ?_
 ·
  intro D s W hJ
  cases hd : D 7 with
  | false => exact HK9.out W (hJ.1.b0 hd)
  | true => exact hJ.2 hd
 ·
  intro s
  exact ⟨R16.start HB9.out rfl rfl rfl rfl rfl, fun q => by cases q⟩
 ·
  refine InvAllF.cons (o := ⟨some 64, _, _, _, _, _⟩) (by kernel_rfl) (fun D s W hD hdep hno hJ K hK => ?_) ?_
  ·
   have n6 : D 6 = false := hno 6 (by kernel_rfl)
   have n7 : D 7 = false := hno 7 (by kernel_rfl)
   clear hdep hno
   simp only [setAll, List.foldl_cons, List.foldl_nil, Act.put, List.setIfInBounds_toArray, List.set_cons_succ, List.set_cons_zero]
   have hJ := hJ.1
   have HJ := Lib.hid hJ
   clear hJ
   go_simp
   refine hK.out _ _ _ ?_ ⟨HJ.out.op0 (n := 2) n7 (HPP.out _ (HJ.out.b0 n7).size) rfl, fun q => by rw [show updD D 0 7 = D 7 from rfl, n7] at q; cases q⟩
   simp only [setAll, List.foldl_cons, List.foldl_nil, Act.put, List.setIfInBounds_toArray, List.set_cons_succ, List.set_cons_zero]
   try rfl
  refine InvAllF.skip (by kernel_rfl) ?_
  refine InvAllF.skip (by kernel_rfl) ?_
  refine InvAllF.skip (by kernel_rfl) ?_
  refine InvAllF.cons (o := ⟨some 68, _, _, _, _, _⟩) (by kernel_rfl) (fun D s W hD hdep hno hJ K hK => ?_) ?_
  ·
   have n5 : D 5 = false := hno 5 (by kernel_rfl)
   have n6 : D 6 = false := hno 6 (by kernel_rfl)
   have n7 : D 7 = false := hno 7 (by kernel_rfl)
   clear hdep hno
   simp only [setAll, List.foldl_cons, List.foldl_nil, Act.put, List.setIfInBounds_toArray, List.set_cons_succ, List.set_cons_zero]
   have hJ := hJ.1
   have HJ := Lib.hid hJ
   clear hJ
   go_simp
   refine (atR_any c.pl c.pu W).mono ?_
   rintro e1 w2 ⟨y, rfl, hyv, hya, hb⟩
   refine hK.out _ _ _ ?_ ⟨HJ.out.opc n7 hb ⟨y, rfl, hyv, hya.mono fun k hk _ => HPP.out k (Nat.le_trans (HJ.out.b0 n7).size hk)⟩, fun q => by rw [show updD D 4 7 = D 7 from rfl, n7] at q; cases q⟩
   simp only [setAll, List.foldl_cons, List.foldl_nil, Act.put, List.setIfInBounds_toArray, List.set_cons_succ, List.set_cons_zero]
   try rfl
  refine InvAllF.cons (o := ⟨some 69, _, _, _, _, _⟩) (by kernel_rfl) (fun D s W hD hdep hno hJ K hK => ?_) ?_
  ·
   have e4 : D 4 = true := hdep 4 (by kernel_rfl)
   have n6 : D 6 = false := hno 6 (by kernel_rfl)
   have n7 : D 7 = false := hno 7 (by kernel_rfl)
   clear hdep hno
   simp only [setAll, List.foldl_cons, List.foldl_nil, Act.put, List.setIfInBounds_toArray, List.set_cons_succ, List.set_cons_zero]
   have hJ := hJ.1
   obtain ⟨y1, q44, qv1, qa1⟩ := hJ.c e4 n7
   have HQ1 := Lib.hid q44
   have HV := Lib.hid (And.intro qv1 qa1)
   clear q44 qv1 qa1
   have HJ := Lib.hid hJ
   clear hJ
   simp only [HQ1.out]
   go_simp
   refine hK.out _ _ _ ?_ ⟨(by have h7 := HJ.out.op5 (x := d5) n7 (HPP.out _ (HJ.out.b0 n7).size) (HDA.out.ext (HJ.out.b0 n7)) HV.out.2 rfl HV.out.1; rw [val_list, val_list] at h7; exact h7), fun q => by rw [show updD D 5 7 = D 7 from rfl, n7] at q; cases q⟩
   simp only [HQ1.out, setAll, List.foldl_cons, List.foldl_nil, Act.put, List.setIfInBounds_toArray, List.set_cons_succ, List.set_cons_zero]
  refine InvAllF.cons (o := ⟨some 70, _, _, _, _, _⟩) (by kernel_rfl) (fun D s W hD hdep hno hJ K hK => ?_) ?_
  ·
   have e0 : D 0 = true := hdep 0 (by kernel_rfl)
   have e4 : D 4 = true := hdep 4 (by kernel_rfl)
   have e5 : D 5 = true := hdep 5 (by kernel_rfl)
   have n7 : D 7 = false := hno 7 (by kernel_rfl)
   clear hdep hno
   simp only [setAll, List.foldl_cons, List.foldl_nil, Act.put, List.setIfInBounds_toArray, List.set_cons_succ, List.set_cons_zero]
   have hJ := hJ.1
   obtain ⟨gk8, q32, pk8, bk8⟩ := hJ.k e0 n7
   obtain ⟨gl8, ys, q39, pl8, bl8, qv8, qa8⟩ := hJ.l e5 n7
   obtain ⟨y1, y2, rfl⟩ : ∃ y1 y2, ys = [y1, y2] := by
    have := congrArg List.length qv8
    simp only [List.length_map, List.length_cons, List.length_nil] at this
    match ys, this with
    | [y1, y2], _ => exact ⟨y1, y2, rfl⟩
   have HQ1 : Hid (s 64 = .slice (some ⟨gk8, 0, none⟩) 2 2) := Lib.hid q32
   have HQ2 : Hid (s 69 = .slice (some ⟨gl8, 0, none⟩) 2 2) := Lib.hid q39
   have HV8 := Lib.hid qv8
   have HD8 := Lib.hid (fun (W' : World) (hb : Below W.heap.size W W') => recD_at (n := 2) (m := 2) (bk8.ext hb) (bl8.ext hb) pk8 pl8 (fun y hy => (qa8 y hy).ext hb))
   clear q32 pk8 bk8 q39 pl8 bl8 qv8 qa8
   have HJ := Lib.hid hJ
   clear hJ
   simp only [HQ1.out, HQ2.out]
   go_simp
   refine (recR_any (some ⟨gk8, 0, none⟩) (some ⟨gl8, 0, none⟩) 2 2 2 2 W).mono ?_
   rintro e1 w2 ⟨rfl, hb⟩
   refine hK.out _ _ _ ?_ ⟨HJ.out.op6 n7 hb ⟨recD gk8 gl8 [kDoc, kPosition] [y1, y2] 2 2, rfl, by rw [recD_v, HV8.out]; rfl, HD8.out _ hb⟩, fun q => by rw [show updD D 6 7 = D 7 from rfl, n7] at q; cases q⟩
   simp only [HQ1.out, HQ2.out, setAll, List.foldl_cons, List.foldl_nil, Act.put, List.setIfInBounds_toArray, List.set_cons_succ, List.set_cons_zero]
   try rfl
  refine InvAllF.cons (o := ⟨none, _, _, _, _, _⟩) (by kernel_rfl) (fun D s W hD hdep hno hJ K hK => ?_) ?_
  ·
   have e0 : D 0 = true := hdep 0 (by kernel_rfl)
   have e4 : D 4 = true := hdep 4 (by kernel_rfl)
   have e5 : D 5 = true := hdep 5 (by kernel_rfl)
   have e6 : D 6 = true := hdep 6 (by kernel_rfl)
   clear hdep hno
   simp only [setAll, List.foldl_cons, List.foldl_nil, Act.put, List.setIfInBounds_toArray, List.set_cons_succ, List.set_cons_zero]
   have hJ := hJ.1
   obtain ⟨y, q40, qv, qa⟩ := hJ.r e6 hD
   have hB := HGVB.out W (hJ.b0 hD)
   have HQ := Lib.hid q40
   have HV := Lib.hid (And.intro qv qa)
   have f0 := hB.free 0
   have f1 := hB.free 1
   have f2 := hB.free 2
   have f3 := hB.free 3
   have f4 := hB.free 4
   have f5 := hB.free 5
   obtain ⟨z0, z1, z2, z3, z4, z5⟩ := hB.sixT
   clear q40 qv qa hB
   have HJ := Lib.hid hJ
   clear hJ
   simp only [HQ.out]
   go_simp
   refine hK.out _ undef _ ?_ ⟨HJ.out.op7 hD HV.out.1 HV.out.2, fun _ => ⟨(put6_other HNE.out.1).trans (HK9.out W (HJ.out.b0 hD)).1, (put6_other HNE.out.2).trans (HK9.out W (HJ.out.b0 hD)).2⟩⟩
   simp only [HQ.out, setAll, List.foldl_cons, List.foldl_nil, Act.put, List.setIfInBounds_toArray, List.set_cons_succ, List.set_cons_zero]
  exact InvAllF.nil
 ·
  intro D s W hD hJ
  obtain ⟨W', y, hb, hW, hyv, hya⟩ := hJ.1.fin (hD 7 (by decide))
  have hbz : Below w.heap.size w W := by rw [hW]; exact put6_below (HBW.out.trans (hb.mono HBW.out.size)) (by omega)
  have hxb : Blk W (w.heap.size + 1) #[.int .i64 y.sort, .bool y.on, .int .i64 y.n, .string ⟨y.text.toArray⟩, .slice y.a y.list.length y.c, .slice y.ka y.keys.length y.kc] 26 := by rw [hW]; exact store6T (HGVB.out _ hb)
  have hxa : ValAt W (fun k => w.heap.size + 2 ≤ k) y := by rw [hW]; exact hya.congr fun j hj _ => put6_other (by omega)
  simp only [setAll, List.foldl_cons, List.foldl_nil, Act.put, List.setIfInBounds_toArray, List.set_cons_succ, List.set_cons_zero]
  have HF : Hid (DocP w P (paramsW c.k) (.returned (.agg #[.int .i64 y.sort, .bool y.on, .int .i64 y.n, .string ⟨y.text.toArray⟩, .slice y.a y.list.length y.c, .slice y.ka y.keys.length y.kc])) W) := Lib.hid ⟨y, rfl, by
   rw [hyv, HDV.out]
   have hkk : c.k.kind = 7 := by show c.kind.toNat = 7; rw [HK.out]; rfl
   unfold paramsW; rw [if_neg (by rw [hkk]; decide), if_neg (by rw [hkk]; decide), if_neg (by rw [hkk]; decide), if_neg (by rw [hkk]; decide), if_pos hkk]
   rfl, hxa.mono fun g hg _ => HP.out g (by omega), hbz⟩
  have HXB := Lib.hid hxb
  clear hJ hD hb hW hyv hya hbz hxa hxb
  generalize s 64 = u41
  generalize s 68 = u44
  generalize s 69 = u46
  generalize s 70 = u47
  clear s D
  go_wp2
  exact toldR_end (g := w.heap.size + 1) rfl HXB.out HF.out
set_option maxHeartbeats 16000000 in
set_option maxRecDepth 20000 in
theorem toldR_4 (P : Nat → Prop) (c : CD) (w : World) (hP : ∀ g, w.heap.size ≤ g → P g) (hk : c.kind = 4) (hc : ValAt w P c.other) (hrow : Row w 6 c.a c.changes.length (c.changes.flatMap E.cells)) (hn : c.changes.length ≤ 1048576) :
  Calls Tryz.prog 58 #[.agg (cdC c)] w (DocP w P (paramsW c.k)) := by
 obtain ⟨W1, hW1⟩ : ∃ q, q = (w.alloc (.cells (cdC c) 31)).alloc (.cells #[.int .i64 0, .bool false, .int .i64 0, .string { data := #[] }, .slice none 0 0, .slice none 0 0] 26) := ⟨_, rfl⟩
 have hb0 : Below w.heap.size w W1 := by rw [hW1]; exact (below_a1 w _).alloc (by simp) _
 have HL : Hid (Below w.heap.size w W1 ∧ Blk W1 w.heap.size (cdC c) 31 ∧ Blk W1 (w.heap.size + 1) #[.int .i64 0, .bool false, .int .i64 0, .string { data := #[] }, .slice none 0 0, .slice none 0 0] 26) := Lib.hid ⟨hb0, by rw [hW1]; exact (Blk.new rfl).alloc _, by rw [hW1]; exact Blk.new (by simp)⟩
 have HP := Lib.hid hP
 have HOV : Hid (ValAt W1 (fun g => P g ∧ g < w.heap.size) c.other) := Lib.hid ((hc.mono fun g h1 h2 => ⟨h1, h2⟩).ext hb0)
 have HCR := Lib.hid hrow
 have HCL := Lib.hid hn
 have HK := Lib.hid hk
 have c0 : W1.cell? ⟨w.heap.size, 0, none⟩ = some (.int .i64 4) := by rw [← hk]; exact HL.out.2.1.cell 0
 clear hb0 hP hc hrow hn hk
 go_enter Tryz.func58, Tryz.ntmps58
 go_upto_region 1 with (fail)
 rw [← hW1]
 clear hW1
 go_upto_region 3 with (fail)
 clear c0 HOV
 have hwl := HL.out.2.1.lt
 have c7 : W1.cell? ⟨w.heap.size, 7, none⟩ = some (.string ⟨c.name.toArray⟩) := HL.out.2.1.cell 7
 go_wp2_with fail
 refine (strR_any c.name (W1.alloc (.cells #[strV kUri] 9))).mono ?_
 rintro e W2 ⟨rfl, hb1⟩
 clear c7 hwl
 obtain ⟨gk, hgk⟩ : ∃ q, q = W1.heap.size := ⟨_, rfl⟩
 have hb : Below W1.heap.size W1 W2 := (below_a1 W1 (.cells #[strV kUri] 9)).trans (hb1.mono (by simp))
 have hkb : Blk W2 gk #[strV kUri] 9 := by rw [hgk]; exact (Blk.new rfl).ext hb1
 have HGK : Hid (w.heap.size + 2 ≤ gk) := Lib.hid (by rw [hgk]; exact HL.out.2.2.lt)
 obtain ⟨gl, hgl⟩ : ∃ q, q = W2.heap.size := ⟨_, rfl⟩
 obtain ⟨W3, hQ⟩ : ∃ q, q = W2.alloc (.cells #[.int .i64 3, .bool false, .int .i64 0, .string ⟨c.name.toArray⟩, .slice none 0 0, .slice none 0 0] 26) := ⟨_, rfl⟩
 have hb2 : Below W2.heap.size W2 W3 := by rw [hQ]; exact below_a1 _ _
 have HS : Hid (ToS w (fun k => w.heap.size + 2 ≤ k) c (some ⟨gk, 0, none⟩) 1 [kUri] (some ⟨gl, 0, none⟩) 1 [strD c.name] W3) := Lib.hid ⟨(HL.out.1.trans (hb.mono HL.out.1.size)).trans (hb2.mono (by have := hb.size; have := HL.out.1.size; omega)), (HL.out.2.1.ext hb).ext hb2, (HL.out.2.2.ext hb).ext hb2, own_blk (hkb.ext hb2) HGK.out rfl (by simp [maxLen]), own_blk (n := 1) (cs := (strD c.name).cells.toArray) (T := 26) (by rw [hQ, hgl]; exact Blk.new rfl) (by have := (HL.out.2.2.ext hb).lt; omega) rfl (by simp [maxLen]), fun y hy => by
  rw [List.mem_singleton] at hy; subst hy; exact .leaf⟩
 clear hb hb1 hb2 hkb HL HGK
 go_upto_region 5 with (fail)
 rw [← hgk, ← hQ, ← hgl]
 clear hgk hgl hQ
 have c0 : W3.cell? ⟨w.heap.size, 0, none⟩ = some (.int .i64 4) := by rw [← HK.out]; exact HS.out.cb.cell 0
 go_upto_region 6 with (fail)
 clear c0
 have HO : Hid (Own (W3.alloc (.cells #[strV kVersion] 9)) (w.heap.size + 2) 9 1 (some ⟨gk, 0, none⟩) 1 1 ([kUri].map strV)) := Lib.hid (HS.out.ko.ext (below_a1 _ _))
 have HMS : Hid (w.heap.size + 2 ≤ (W3.alloc (.cells #[strV kVersion] 9)).heap.size) := Lib.hid (by have := HS.out.sz; simp; omega)
 have HA : Hid (∀ a' k' W', Own W' (w.heap.size + 2) 9 1 a' (1 + 1) k' ([kUri].map strV ++ [strV kVersion]) → (W3.alloc (.cells #[strV kVersion] 9)).grownBy W' (rowOf (some ⟨gk, 0, none⟩) 1) → (rowOf a' k' = rowOf (some ⟨gk, 0, none⟩) 1 ∨ rowOf a' k' = some (W3.alloc (.cells #[strV kVersion] 9)).heap.size) → ToS w (fun k => w.heap.size + 2 ≤ k) c a' k' ([kUri] ++ [kVersion]) (some ⟨gl, 0, none⟩) 1 [strD c.name] W') := Lib.hid fun a' k' W' h1 h2 h3 => (HS.out.ext (below_a1 _ _)).appK h1 h2 h3
 go_upto_region 7 with (at_builtin; refine wpList_append_Own rfl _ _ 24 rfl (w.heap.size + 2) 9 _ 1 16 Tryz.underlying24 Tryz.infoStr rfl (by decide) (some ⟨gk, 0, none⟩) 1 1 _ rfl HO.out (some ⟨W3.heap.size, 0, none⟩) 1 1 [strV kVersion] rfl (row_blk (Blk.new rfl) rfl) (by intro u hu; simp at hu; subst hu; rfl) (by simp [maxLen]) (by simp) HMS.out ?_; intro aWa cWa Wa ho5 hg5 hb5; have HSn := Lib.hid (HA.out _ _ _ ho5 hg5 hb5); clear ho5 hg5 hb5)
 clear HO HMS HA HS
 have HS := HSn
 clear HSn
 simp only [List.cons_append, List.nil_append] at HS
 have c8 : Wa.cell? ⟨w.heap.size, 8, none⟩ = some (.int .i64 c.version) := HS.out.cb.cell 8
 go_wp2_with fail
 refine (numR_any c.version Wa).mono ?_
 rintro e Wb ⟨rfl, hb⟩
 have HSn := Lib.hid (HS.out.ext hb)
 clear HS hb c8
 have HS := HSn
 clear HSn
 have HO : Hid (Own (Wb.alloc (.cells #[.int .i64 2, .bool false, .int .i64 c.version, .string { data := #[] }, .slice none 0 0, .slice none 0 0] 26)) (w.heap.size + 2) 26 6 (some ⟨gl, 0, none⟩) 1 1 ([strD c.name].flatMap VD.cells)) := Lib.hid (HS.out.lo.ext (below_a1 _ _))
 have HMS : Hid (w.heap.size + 2 ≤ (Wb.alloc (.cells #[.int .i64 2, .bool false, .int .i64 c.version, .string { data := #[] }, .slice none 0 0, .slice none 0 0] 26)).heap.size) := Lib.hid (by have := HS.out.sz; simp; omega)
 have HRW : Hid (Row (Wb.alloc (.cells #[.int .i64 2, .bool false, .int .i64 c.version, .string { data := #[] }, .slice none 0 0, .slice none 0 0] 26)) 6 (some ⟨Wb.heap.size, 0, none⟩) 1 (numD c.version).cells) := Lib.hid (row_blk (T := 26) (Blk.new rfl) rfl)
 have HA : Hid (∀ a' k' W', Own W' (w.heap.size + 2) 26 6 a' (1 + 1) k' ([strD c.name].flatMap VD.cells ++ (numD c.version).cells) → (Wb.alloc (.cells #[.int .i64 2, .bool false, .int .i64 c.version, .string { data := #[] }, .slice none 0 0, .slice none 0 0] 26)).grownBy W' (rowOf (some ⟨gl, 0, none⟩) 1) → (rowOf a' k' = rowOf (some ⟨gl, 0, none⟩) 1 ∨ rowOf a' k' = some (Wb.alloc (.cells #[.int .i64 2, .bool false, .int .i64 c.version, .string { data := #[] }, .slice none 0 0, .slice none 0 0] 26)).heap.size) → ToS w (fun k => w.heap.size + 2 ≤ k) c aWa cWa [kUri, kVersion] a' k' ([strD c.name] ++ [numD c.version]) W') := Lib.hid fun a' k' W' h1 h2 h3 => (HS.out.ext (below_a1 _ _)).appL .leaf h1 h2 h3
 go_upto_region 8 with (at_builtin; refine wpList_append_Own rfl _ _ 23 rfl (w.heap.size + 2) 26 _ 6 88 Tryz.underlying23 Tryz.infoDoc rfl (by decide) (some ⟨gl, 0, none⟩) 1 1 _ rfl HO.out (some ⟨Wb.heap.size, 0, none⟩) 1 1 (numD c.version).cells rfl HRW.out (by intro u hu; simp [numD, VD.cells, strV] at hu; rcases hu with rfl | rfl | rfl | rfl | rfl | rfl <;> rfl) (by simp [maxLen]) (by simp) HMS.out ?_; intro aWc cWc Wc ho5 hg5 hb5; have HSn := Lib.hid (HA.out _ _ _ ho5 hg5 hb5); clear ho5 hg5 hb5)
 clear HO HMS HA HS HRW
 have HS := HSn
 clear HSn
 simp only [List.cons_append, List.nil_append] at HS
 have c0 : Wc.cell? ⟨w.heap.size, 0, none⟩ = some (.int .i64 4) := by rw [← HK.out]; exact HS.out.cb.cell 0
 go_upto_region 9 with (fail)
 clear c0
 have HO : Hid (Own (Wc.alloc (.cells #[strV kText] 9)) (w.heap.size + 2) 9 1 aWa 2 cWa ([kUri, kVersion].map strV)) := Lib.hid (HS.out.ko.ext (below_a1 _ _))
 have HMS : Hid (w.heap.size + 2 ≤ (Wc.alloc (.cells #[strV kText] 9)).heap.size) := Lib.hid (by have := HS.out.sz; simp; omega)
 have HA : Hid (∀ a' k' W', Own W' (w.heap.size + 2) 9 1 a' (2 + 1) k' ([kUri, kVersion].map strV ++ [strV kText]) → (Wc.alloc (.cells #[strV kText] 9)).grownBy W' (rowOf aWa cWa) → (rowOf a' k' = rowOf aWa cWa ∨ rowOf a' k' = some (Wc.alloc (.cells #[strV kText] 9)).heap.size) → ToS w (fun k => w.heap.size + 2 ≤ k) c a' k' ([kUri, kVersion] ++ [kText]) aWc cWc [strD c.name, numD c.version] W') := Lib.hid fun a' k' W' h1 h2 h3 => (HS.out.ext (below_a1 _ _)).appK h1 h2 h3
 go_upto_region 10 with (at_builtin; refine wpList_append_Own rfl _ _ 24 rfl (w.heap.size + 2) 9 _ 1 16 Tryz.underlying24 Tryz.infoStr rfl (by decide) aWa 2 cWa _ rfl HO.out (some ⟨Wc.heap.size, 0, none⟩) 1 1 [strV kText] rfl (row_blk (Blk.new rfl) rfl) (by intro u hu; simp at hu; subst hu; rfl) (by simp [maxLen]) (by simp) HMS.out ?_; intro aWd cWd Wd ho5 hg5 hb5; have HSn := Lib.hid (HA.out _ _ _ ho5 hg5 hb5); clear ho5 hg5 hb5)
 clear HO HMS HA HS
 have HS := HSn
 clear HSn
 simp only [List.cons_append, List.nil_append] at HS
 have c9 : Wd.cell? ⟨w.heap.size, 9, none⟩ = some (.string ⟨c.text.toArray⟩) := HS.out.cb.cell 9
 go_wp2_with fail
 refine (strR_any c.text Wd).mono ?_
 rintro e We ⟨rfl, hb⟩
 have HSn := Lib.hid (HS.out.ext hb)
 clear HS hb c9
 have HS := HSn
 clear HSn
 have HO : Hid (Own (We.alloc (.cells #[.int .i64 3, .bool false, .int .i64 0, .string ⟨c.text.toArray⟩, .slice none 0 0, .slice none 0 0] 26)) (w.heap.size + 2) 26 6 aWc 2 cWc ([strD c.name, numD c.version].flatMap VD.cells)) := Lib.hid (HS.out.lo.ext (below_a1 _ _))
 have HMS : Hid (w.heap.size + 2 ≤ (We.alloc (.cells #[.int .i64 3, .bool false, .int .i64 0, .string ⟨c.text.toArray⟩, .slice none 0 0, .slice none 0 0] 26)).heap.size) := Lib.hid (by have := HS.out.sz; simp; omega)
 have HRW : Hid (Row (We.alloc (.cells #[.int .i64 3, .bool false, .int .i64 0, .string ⟨c.text.toArray⟩, .slice none 0 0, .slice none 0 0] 26)) 6 (some ⟨We.heap.size, 0, none⟩) 1 (strD c.text).cells) := Lib.hid (row_blk (T := 26) (Blk.new rfl) rfl)
 have HA : Hid (∀ a' k' W', Own W' (w.heap.size + 2) 26 6 a' (2 + 1) k' ([strD c.name, numD c.version].flatMap VD.cells ++ (strD c.text).cells) → (We.alloc (.cells #[.int .i64 3, .bool false, .int .i64 0, .string ⟨c.text.toArray⟩, .slice none 0 0, .slice none 0 0] 26)).grownBy W' (rowOf aWc cWc) → (rowOf a' k' = rowOf aWc cWc ∨ rowOf a' k' = some (We.alloc (.cells #[.int .i64 3, .bool false, .int .i64 0, .string ⟨c.text.toArray⟩, .slice none 0 0, .slice none 0 0] 26)).heap.size) → ToS w (fun k => w.heap.size + 2 ≤ k) c aWd cWd [kUri, kVersion, kText] a' k' ([strD c.name, numD c.version] ++ [strD c.text]) W') := Lib.hid fun a' k' W' h1 h2 h3 => (HS.out.ext (below_a1 _ _)).appL .leaf h1 h2 h3
 go_upto_region 11 with (at_builtin; refine wpList_append_Own rfl _ _ 23 rfl (w.heap.size + 2) 26 _ 6 88 Tryz.underlying23 Tryz.infoDoc rfl (by decide) aWc 2 cWc _ rfl HO.out (some ⟨We.heap.size, 0, none⟩) 1 1 (strD c.text).cells rfl HRW.out (by intro u hu; simp [strD, VD.cells, strV] at hu; rcases hu with rfl | rfl | rfl | rfl | rfl | rfl <;> rfl) (by simp [maxLen]) (by simp) HMS.out ?_; intro aWf cWf Wf ho5 hg5 hb5; have HSn := Lib.hid (HA.out _ _ _ ho5 hg5 hb5); clear ho5 hg5 hb5)
 clear HO HMS HA HS HRW
 have HS := HSn
 clear HSn
 simp only [List.cons_append, List.nil_append] at HS
 go_wp2_with fail
 refine (recR_any aWd aWf 3 cWd 3 cWf Wf).mono ?_
 rintro e Wr ⟨rfl, hb⟩
 have HSr := Lib.hid (HS.out.ext hb)
 obtain ⟨d5, hd5⟩ : ∃ q, q = VD.mk 5 false 0 [] aWf cWf [strD c.name, numD c.version, strD c.text] aWd cWd [kUri, kVersion, kText] := ⟨_, rfl⟩
 obtain ⟨gd, hg⟩ : ∃ q, q = Wr.heap.size := ⟨_, rfl⟩
 obtain ⟨W5, hQ⟩ : ∃ q, q = Wr.alloc (.cells #[.int .i64 5, .bool false, .int .i64 0, .string { data := #[] }, .slice aWf 3 cWf, .slice aWd 3 cWd] 26) := ⟨_, rfl⟩
 have hb5 : Below Wr.heap.size Wr W5 := by rw [hQ]; exact below_a1 _ _
 have HL : Hid (Below w.heap.size w W5 ∧ Blk W5 w.heap.size (cdC c) 31 ∧ Blk W5 (w.heap.size + 1) #[.int .i64 0, .bool false, .int .i64 0, .string { data := #[] }, .slice none 0 0, .slice none 0 0] 26 ∧ Blk W5 gd #[.int .i64 d5.sort, .bool d5.on, .int .i64 d5.n, .string ⟨d5.text.toArray⟩, .slice d5.a d5.list.length d5.c, .slice d5.ka d5.keys.length d5.kc] 26 ∧ ValAt W5 (fun k => w.heap.size + 2 ≤ k) d5) := Lib.hid ⟨(HSr.out.ext hb5).below, (HSr.out.ext hb5).cb, (HSr.out.ext hb5).rb, by rw [hQ, hg, hd5]; exact Blk.new rfl, by rw [hd5]; exact (HSr.out.ext hb5).rcd (fun _ h => h)⟩
 have HDV : Hid (d5.v = recW [(kUri, strW c.name), (kVersion, numW c.version), (kText, strW c.text)]) := Lib.hid (by rw [hd5, VD.v_eq]; rfl)
 clear hd5 hb hb5 HS HSr
 go_upto_region 12 with (fail)
 rw [← hQ, ← hg]
 clear hQ hg
 have c0 : W5.cell? ⟨w.heap.size, 0, none⟩ = some (.int .i64 4) := by rw [← HK.out]; exact HL.out.2.1.cell 0
 go_upto_region 17 with (fail)
 clear c0
 obtain ⟨d0, d1, d2, d3, d4, d6⟩ := HL.out.2.2.2.1.sixT
 have hwl := HL.out.2.2.2.1.lt
 go_wp2_with fail
 refine (recR_any (some ⟨W5.heap.size, 0, none⟩) (some ⟨W5.heap.size + 1, 0, none⟩) 1 1 1 1 ((W5.alloc (.cells #[strV kDoc] 9)).alloc (.cells #[.int .i64 d5.sort, .bool d5.on, .int .i64 d5.n, .string ⟨d5.text.toArray⟩, .slice d5.a d5.list.length d5.c, .slice d5.ka d5.keys.length d5.kc] 26))).mono ?_
 rintro e W6 ⟨rfl, hb1⟩
 clear d0 d1 d2 d3 d4 d6 hwl
 obtain ⟨gk, hgk⟩ : ∃ q, q = W5.heap.size := ⟨_, rfl⟩
 obtain ⟨gl, hgl⟩ : ∃ q, q = W5.heap.size + 1 := ⟨_, rfl⟩
 have hb : Below W5.heap.size W5 W6 := ((below_a1 W5 (.cells #[strV kDoc] 9)).alloc (by simp) _).trans (hb1.mono (by simp; omega))
 have hkb : Blk W6 gk ([kDoc].map strV).toArray 9 := by rw [hgk]; exact ((Blk.new rfl).alloc _).ext hb1
 have hlb : Blk W6 gl ([d5].flatMap VD.cells).toArray 26 := by rw [hgl]; simp only [List.flatMap_cons, List.flatMap_nil, List.append_nil]; rw [val_arr]; exact (Blk.new (by simp)).ext hb1
 have HGK : Hid (w.heap.size + 2 ≤ gk) := Lib.hid (by rw [hgk]; exact HL.out.2.2.1.lt)
 have HGL : Hid (w.heap.size + 2 ≤ gl) := Lib.hid (by rw [hgl]; have := HL.out.2.2.1.lt; omega)
 have HX : Hid (ValAt W6 (fun k => w.heap.size + 2 ≤ k) (recD gk gl [kDoc] [d5] 1 1)) := Lib.hid (recD_at hkb hlb HGK.out HGL.out fun y hy => by
  rw [List.mem_singleton] at hy; subst hy; exact HL.out.2.2.2.2.ext hb)
 rw [← hgl, ← hgk]
 clear hb1 hkb hlb
 have HLn : Hid (Below w.heap.size w W6 ∧ Blk W6 w.heap.size (cdC c) 31 ∧ Blk W6 (w.heap.size + 1) #[.int .i64 0, .bool false, .int .i64 0, .string { data := #[] }, .slice none 0 0, .slice none 0 0] 26 ∧ Blk W6 gd #[.int .i64 d5.sort, .bool d5.on, .int .i64 d5.n, .string ⟨d5.text.toArray⟩, .slice d5.a d5.list.length d5.c, .slice d5.ka d5.keys.length d5.kc] 26 ∧ ValAt W6 (fun k => w.heap.size + 2 ≤ k) d5) := Lib.hid (⟨HL.out.1.trans (hb.mono HL.out.1.size), HL.out.2.1.ext hb, HL.out.2.2.1.ext hb, HL.out.2.2.2.1.ext hb, HL.out.2.2.2.2.ext hb⟩)
 clear HL hb
 have HL := HLn
 clear HLn
 have f0 := HL.out.2.2.1.free 0
 have f1 := HL.out.2.2.1.free 1
 have f2 := HL.out.2.2.1.free 2
 have f3 := HL.out.2.2.1.free 3
 have f4 := HL.out.2.2.1.free 4
 have f5 := HL.out.2.2.1.free 5
 obtain ⟨z0, z1, z2, z3, z4, z5⟩ := HL.out.2.2.1.sixT
 clear hgk hgl
 go_wp2
 refine toldR_end (g := w.heap.size + 1) rfl (store6T HL.out.2.2.1) ?_
 refine ⟨recD gk gl [kDoc] [d5] 1 1, rfl, ?_, (HX.out.congr fun g hg _ => put6_other (by omega)).mono fun g hg _ => HP.out g (by omega), put6_below (o := 0) HL.out.1 (by omega)⟩
 rw [recD_v, List.map_singleton, HDV.out]
 have hkk : c.k.kind = 4 := by show c.kind.toNat = 4; rw [HK.out]; rfl
 unfold paramsW; rw [if_neg (by rw [hkk]; decide), if_pos hkk, if_neg (by rw [hkk]; decide), if_neg (by rw [hkk]; decide)]
 rfl
set_option maxHeartbeats 16000000 in
set_option maxRecDepth 20000 in
theorem toldR_5 (P : Nat → Prop) (c : CD) (w : World) (hP : ∀ g, w.heap.size ≤ g → P g) (hk : c.kind = 5) (hc : ValAt w P c.other) (hrow : Row w 6 c.a c.changes.length (c.changes.flatMap E.cells)) (hn : c.changes.length ≤ 1048576) :
  Calls Tryz.prog 58 #[.agg (cdC c)] w (DocP w P (paramsW c.k)) := by
 obtain ⟨W1, hW1⟩ : ∃ q, q = (w.alloc (.cells (cdC c) 31)).alloc (.cells #[.int .i64 0, .bool false, .int .i64 0, .string { data := #[] }, .slice none 0 0, .slice none 0 0] 26) := ⟨_, rfl⟩
 have hb0 : Below w.heap.size w W1 := by rw [hW1]; exact (below_a1 w _).alloc (by simp) _
 have HL : Hid (Below w.heap.size w W1 ∧ Blk W1 w.heap.size (cdC c) 31 ∧ Blk W1 (w.heap.size + 1) #[.int .i64 0, .bool false, .int .i64 0, .string { data := #[] }, .slice none 0 0, .slice none 0 0] 26) := Lib.hid ⟨hb0, by rw [hW1]; exact (Blk.new rfl).alloc _, by rw [hW1]; exact Blk.new (by simp)⟩
 have HP := Lib.hid hP
 have HOV : Hid (ValAt W1 (fun g => P g ∧ g < w.heap.size) c.other) := Lib.hid ((hc.mono fun g h1 h2 => ⟨h1, h2⟩).ext hb0)
 have HCR := Lib.hid hrow
 have HCL := Lib.hid hn
 have HK := Lib.hid hk
 have c0 : W1.cell? ⟨w.heap.size, 0, none⟩ = some (.int .i64 5) := by rw [← hk]; exact HL.out.2.1.cell 0
 clear hb0 hP hc hrow hn hk
 go_enter Tryz.func58, Tryz.ntmps58
 go_upto_region 1 with (fail)
 rw [← hW1]
 clear hW1
 go_upto_region 3 with (fail)
 clear c0 HOV
 have hwl := HL.out.2.1.lt
 have c7 : W1.cell? ⟨w.heap.size, 7, none⟩ = some (.string ⟨c.name.toArray⟩) := HL.out.2.1.cell 7
 go_wp2_with fail
 refine (strR_any c.name (W1.alloc (.cells #[strV kUri] 9))).mono ?_
 rintro e W2 ⟨rfl, hb1⟩
 clear c7 hwl
 obtain ⟨gk, hgk⟩ : ∃ q, q = W1.heap.size := ⟨_, rfl⟩
 have hb : Below W1.heap.size W1 W2 := (below_a1 W1 (.cells #[strV kUri] 9)).trans (hb1.mono (by simp))
 have hkb : Blk W2 gk #[strV kUri] 9 := by rw [hgk]; exact (Blk.new rfl).ext hb1
 have HGK : Hid (w.heap.size + 2 ≤ gk) := Lib.hid (by rw [hgk]; exact HL.out.2.2.lt)
 obtain ⟨gl, hgl⟩ : ∃ q, q = W2.heap.size := ⟨_, rfl⟩
 obtain ⟨W3, hQ⟩ : ∃ q, q = W2.alloc (.cells #[.int .i64 3, .bool false, .int .i64 0, .string ⟨c.name.toArray⟩, .slice none 0 0, .slice none 0 0] 26) := ⟨_, rfl⟩
 have hb2 : Below W2.heap.size W2 W3 := by rw [hQ]; exact below_a1 _ _
 have HS : Hid (ToS w (fun k => w.heap.size + 2 ≤ k) c (some ⟨gk, 0, none⟩) 1 [kUri] (some ⟨gl, 0, none⟩) 1 [strD c.name] W3) := Lib.hid ⟨(HL.out.1.trans (hb.mono HL.out.1.size)).trans (hb2.mono (by have := hb.size; have := HL.out.1.size; omega)), (HL.out.2.1.ext hb).ext hb2, (HL.out.2.2.ext hb).ext hb2, own_blk (hkb.ext hb2) HGK.out rfl (by simp [maxLen]), own_blk (n := 1) (cs := (strD c.name).cells.toArray) (T := 26) (by rw [hQ, hgl]; exact Blk.new rfl) (by have := (HL.out.2.2.ext hb).lt; omega) rfl (by simp [maxLen]), fun y hy => by
  rw [List.mem_singleton] at hy; subst hy; exact .leaf⟩
 clear hb hb1 hb2 hkb HL HGK
 go_upto_region 5 with (fail)
 rw [← hgk, ← hQ, ← hgl]
 clear hgk hgl hQ
 have c0 : W3.cell? ⟨w.heap.size, 0, none⟩ = some (.int .i64 5) := by rw [← HK.out]; exact HS.out.cb.cell 0
 go_upto_region 6 with (fail)
 clear c0
 have HO : Hid (Own (W3.alloc (.cells #[strV kVersion] 9)) (w.heap.size + 2) 9 1 (some ⟨gk, 0, none⟩) 1 1 ([kUri].map strV)) := Lib.hid (HS.out.ko.ext (below_a1 _ _))
 have HMS : Hid (w.heap.size + 2 ≤ (W3.alloc (.cells #[strV kVersion] 9)).heap.size) := Lib.hid (by have := HS.out.sz; simp; omega)
 have HA : Hid (∀ a' k' W', Own W' (w.heap.size + 2) 9 1 a' (1 + 1) k' ([kUri].map strV ++ [strV kVersion]) → (W3.alloc (.cells #[strV kVersion] 9)).grownBy W' (rowOf (some ⟨gk, 0, none⟩) 1) → (rowOf a' k' = rowOf (some ⟨gk, 0, none⟩) 1 ∨ rowOf a' k' = some (W3.alloc (.cells #[strV kVersion] 9)).heap.size) → ToS w (fun k => w.heap.size + 2 ≤ k) c a' k' ([kUri] ++ [kVersion]) (some ⟨gl, 0, none⟩) 1 [strD c.name] W') := Lib.hid fun a' k' W' h1 h2 h3 => (HS.out.ext (below_a1 _ _)).appK h1 h2 h3
 go_upto_region 7 with (at_builtin; refine wpList_append_Own rfl _ _ 24 rfl (w.heap.size + 2) 9 _ 1 16 Tryz.underlying24 Tryz.infoStr rfl (by decide) (some ⟨gk, 0, none⟩) 1 1 _ rfl HO.out (some ⟨W3.heap.size, 0, none⟩) 1 1 [strV kVersion] rfl (row_blk (Blk.new rfl) rfl) (by intro u hu; simp at hu; subst hu; rfl) (by simp [maxLen]) (by simp) HMS.out ?_; intro aWa cWa Wa ho5 hg5 hb5; have HSn := Lib.hid (HA.out _ _ _ ho5 hg5 hb5); clear ho5 hg5 hb5)
 clear HO HMS HA HS
 have HS := HSn
 clear HSn
 simp only [List.cons_append, List.nil_append] at HS
 have c8 : Wa.cell? ⟨w.heap.size, 8, none⟩ = some (.int .i64 c.version) := HS.out.cb.cell 8
 go_wp2_with fail
 refine (numR_any c.version Wa).mono ?_
 rintro e Wb ⟨rfl, hb⟩
 have HSn := Lib.hid (HS.out.ext hb)
 clear HS hb c8
 have HS := HSn
 clear HSn
 have HO : Hid (Own (Wb.alloc (.cells #[.int .i64 2, .bool false, .int .i64 c.version, .string { data := #[] }, .slice none 0 0, .slice none 0 0] 26)) (w.heap.size + 2) 26 6 (some ⟨gl, 0, none⟩) 1 1 ([strD c.name].flatMap VD.cells)) := Lib.hid (HS.out.lo.ext (below_a1 _ _))
 have HMS : Hid (w.heap.size + 2 ≤ (Wb.alloc (.cells #[.int .i64 2, .bool false, .int .i64 c.version, .string { data := #[] }, .slice none 0 0, .slice none 0 0] 26)).heap.size) := Lib.hid (by have := HS.out.sz; simp; omega)
 have HRW : Hid (Row (Wb.alloc (.cells #[.int .i64 2, .bool false, .int .i64 c.version, .string { data := #[] }, .slice none 0 0, .slice none 0 0] 26)) 6 (some ⟨Wb.heap.size, 0, none⟩) 1 (numD c.version).cells) := Lib.hid (row_blk (T := 26) (Blk.new rfl) rfl)
 have HA : Hid (∀ a' k' W', Own W' (w.heap.size + 2) 26 6 a' (1 + 1) k' ([strD c.name].flatMap VD.cells ++ (numD c.version).cells) → (Wb.alloc (.cells #[.int .i64 2, .bool false, .int .i64 c.version, .string { data := #[] }, .slice none 0 0, .slice none 0 0] 26)).grownBy W' (rowOf (some ⟨gl, 0, none⟩) 1) → (rowOf a' k' = rowOf (some ⟨gl, 0, none⟩) 1 ∨ rowOf a' k' = some (Wb.alloc (.cells #[.int .i64 2, .bool false, .int .i64 c.version, .string { data := #[] }, .slice none 0 0, .slice none 0 0] 26)).heap.size) → ToS w (fun k => w.heap.size + 2 ≤ k) c aWa cWa [kUri, kVersion] a' k' ([strD c.name] ++ [numD c.version]) W') := Lib.hid fun a' k' W' h1 h2 h3 => (HS.out.ext (below_a1 _ _)).appL .leaf h1 h2 h3
 go_upto_region 8 with (at_builtin; refine wpList_append_Own rfl _ _ 23 rfl (w.heap.size + 2) 26 _ 6 88 Tryz.underlying23 Tryz.infoDoc rfl (by decide) (some ⟨gl, 0, none⟩) 1 1 _ rfl HO.out (some ⟨Wb.heap.size, 0, none⟩) 1 1 (numD c.version).cells rfl HRW.out (by intro u hu; simp [numD, VD.cells, strV] at hu; rcases hu with rfl | rfl | rfl | rfl | rfl | rfl <;> rfl) (by simp [maxLen]) (by simp) HMS.out ?_; intro aWc cWc Wc ho5 hg5 hb5; have HSn := Lib.hid (HA.out _ _ _ ho5 hg5 hb5); clear ho5 hg5 hb5)
 clear HO HMS HA HS HRW
 have HS := HSn
 clear HSn
 simp only [List.cons_append, List.nil_append] at HS
 have c0 : Wc.cell? ⟨w.heap.size, 0, none⟩ = some (.int .i64 5) := by rw [← HK.out]; exact HS.out.cb.cell 0
 go_upto_region 11 with (fail)
 clear c0
 go_wp2_with fail
 refine (recR_any aWa aWc 2 cWa 2 cWc Wc).mono ?_
 rintro e Wr ⟨rfl, hb⟩
 have HSr := Lib.hid (HS.out.ext hb)
 obtain ⟨d5, hd5⟩ : ∃ q, q = VD.mk 5 false 0 [] aWc cWc [strD c.name, numD c.version] aWa cWa [kUri, kVersion] := ⟨_, rfl⟩
 obtain ⟨gd, hg⟩ : ∃ q, q = Wr.heap.size := ⟨_, rfl⟩
 obtain ⟨W5, hQ⟩ : ∃ q, q = Wr.alloc (.cells #[.int .i64 5, .bool false, .int .i64 0, .string { data := #[] }, .slice aWc 2 cWc, .slice aWa 2 cWa] 26) := ⟨_, rfl⟩
 have hb5 : Below Wr.heap.size Wr W5 := by rw [hQ]; exact below_a1 _ _
 have HL : Hid (Below w.heap.size w W5 ∧ Blk W5 w.heap.size (cdC c) 31 ∧ Blk W5 (w.heap.size + 1) #[.int .i64 0, .bool false, .int .i64 0, .string { data := #[] }, .slice none 0 0, .slice none 0 0] 26 ∧ Blk W5 gd #[.int .i64 d5.sort, .bool d5.on, .int .i64 d5.n, .string ⟨d5.text.toArray⟩, .slice d5.a d5.list.length d5.c, .slice d5.ka d5.keys.length d5.kc] 26 ∧ ValAt W5 (fun k => w.heap.size + 2 ≤ k) d5) := Lib.hid ⟨(HSr.out.ext hb5).below, (HSr.out.ext hb5).cb, (HSr.out.ext hb5).rb, by rw [hQ, hg, hd5]; exact Blk.new rfl, by rw [hd5]; exact (HSr.out.ext hb5).rcd (fun _ h => h)⟩
 have HDV : Hid (d5.v = recW [(kUri, strW c.name), (kVersion, numW c.version)]) := Lib.hid (by rw [hd5, VD.v_eq]; rfl)
 clear hd5 hb hb5 HS HSr
 go_upto_region 12 with (fail)
 rw [← hQ, ← hg]
 clear hQ hg
 have c0 : W5.cell? ⟨w.heap.size, 0, none⟩ = some (.int .i64 5) := by rw [← HK.out]; exact HL.out.2.1.cell 0
 go_upto_region 14 with (fail)
 clear c0
 have HB9 : Hid (Below W5.heap.size W5 W5.drew) := Lib.hid (Below.refl _ _).drew
 have HPP : Hid (∀ j, W5.heap.size ≤ j → w.heap.size + 2 ≤ j) := Lib.hid fun j hj => by have := HL.out.2.2.1.lt; omega
 have HDA := Lib.hid HL.out.2.2.2.2
 have HK9 : Hid (∀ W, Below W5.heap.size W5 W → Blk W w.heap.size (cdC c) 31 ∧ Blk W gd #[.int .i64 d5.sort, .bool d5.on, .int .i64 d5.n, .string ⟨d5.text.toArray⟩, .slice d5.a d5.list.length d5.c, .slice d5.ka d5.keys.length d5.kc] 26) := Lib.hid fun W h => ⟨HL.out.2.1.ext h, HL.out.2.2.2.1.ext h⟩
 have HGVB : Hid (∀ W, Below W5.heap.size W5 W → Blk W (w.heap.size + 1) #[.int .i64 0, .bool false, .int .i64 0, .string { data := #[] }, .slice none 0 0, .slice none 0 0] 26) := Lib.hid fun W h => HL.out.2.2.1.ext h
 have HNE : Hid (w.heap.size ≠ w.heap.size + 1 ∧ gd ≠ w.heap.size + 1) := Lib.hid ⟨by omega, fun q => by
  have h1 := HL.out.2.2.2.1
  rw [q] at h1
  have h2 := h1.symm.trans HL.out.2.2.1
  injection h2 with h2
  injection h2 with h3 _ _
  have h4 := congrArg (fun a : Array Value => a[0]?) h3
  simp at h4
  have h5 : d5.sort = 5 := by first | (rw [← vd_sort, HDV.out]; done) | (rw [← vd_sort, HDV.out]; rfl)
  omega⟩
 have HBW := Lib.hid HL.out.1
 refine wp_region_held_drew (S := (fun w' => Blk w' w.heap.size (cdC c) 31 ∧ Blk w' gd #[.int .i64 d5.sort, .bool d5.on, .int .i64 d5.n, .string ⟨d5.text.toArray⟩, .slice d5.a d5.list.length d5.c, .slice d5.ka d5.keys.length d5.kc] 26)) (by kernel_rfl) ?_ (fun hHeld => ?_)
 ·
  exact HK9.out _ HB9.out
 refine wpAnyH_take (i := 1) (oi := ⟨some 56, _, _, _, _, _⟩) (v := ?_) rfl (by kernel_rfl) (by kernel_rfl) (by kernel_rfl) (fun _ _ _ h => h) (Or.inl ⟨by rfl, ?_⟩) (by assumption) ?_; rotate_left; focus (intro w hSw; (try dsimp only at hSw); obtain ⟨c0, c1, c2, c3, c4, c5⟩ := Blk.sixT hSw.2; first | (go_simp; done) | (go_simp; with_reducible rfl))
 try simp only [Act.put, List.setIfInBounds_toArray, List.set_cons_succ, List.set_cons_zero]
 refine wpAnyH_take (i := 2) (oi := ⟨some 57, _, _, _, _, _⟩) (v := ?_) rfl (by kernel_rfl) (by kernel_rfl) (by kernel_rfl) (fun _ _ _ h => h) (Or.inl ⟨by rfl, ?_⟩) (by assumption) ?_; rotate_left; focus (intro w hSw; (try dsimp only at hSw); first | (go_simp; done) | (go_simp; with_reducible rfl))
 try simp only [Act.put, List.setIfInBounds_toArray, List.set_cons_succ, List.set_cons_zero]
 refine wpAnyH_take (i := 3) (oi := ⟨some 58, _, _, _, _, _⟩) (v := ?_) rfl (by kernel_rfl) (by kernel_rfl) (by kernel_rfl) (fun _ _ _ h => h) (Or.inl ⟨by rfl, ?_⟩) (by assumption) ?_; rotate_left; focus (intro w hSw; (try dsimp only at hSw); have b10 := Blk.cell hSw.1 10; unfold cdC at b10; simp only [List.getElem?_toArray, List.getElem?_cons_zero, List.getElem?_cons_succ] at b10; first | (go_simp; done) | (go_simp; with_reducible rfl))
 try simp only [Act.put, List.setIfInBounds_toArray, List.set_cons_succ, List.set_cons_zero]
 refine wpAnyH_invF [55, 59, 60, 61] [1, 2, 3] (fun D s W => R14 W5 (fun k => w.heap.size + 2 ≤ k) (w.heap.size + 1) [kDoc, kChanges] (listW (c.changes.map editW)) d5.v (recW [(kDoc, d5.v), (kChanges, listW (c.changes.map editW))]) D s W ∧ (D 7 = true → Blk W w.heap.size (cdC c) 31 ∧ Blk W gd #[.int .i64 d5.sort, .bool d5.on, .int .i64 d5.n, .string ⟨d5.text.toArray⟩, .slice d5.a d5.list.length d5.c, .slice d5.ka d5.keys.length d5.kc] 26)) (by kernel_rfl) (by rfl) (by kernel_rfl) (by kernel_rfl) (Nat.le_of_ble_eq_true (by kernel_rfl)) ?_ ?_ ?_ ?_
 ·
  intro D s W hJ
  cases hd : D 7 with
  | false => exact HK9.out W (hJ.1.b0 hd)
  | true => exact hJ.2 hd
 ·
  intro s
  exact ⟨R14.start HB9.out rfl rfl rfl rfl rfl, fun q => by cases q⟩
 ·
  refine InvAllF.cons (o := ⟨some 55, _, _, _, _, _⟩) (by kernel_rfl) (fun D s W hD hdep hno hJ K hK => ?_) ?_
  ·
   have n6 : D 6 = false := hno 6 (by kernel_rfl)
   have n7 : D 7 = false := hno 7 (by kernel_rfl)
   clear hdep hno
   simp only [setAll, List.foldl_cons, List.foldl_nil, Act.put, List.setIfInBounds_toArray, List.set_cons_succ, List.set_cons_zero]
   have hJ := hJ.1
   have HJ := Lib.hid hJ
   clear hJ
   go_simp
   refine hK.out _ _ _ ?_ ⟨HJ.out.op0 (n := 2) n7 (HPP.out _ (HJ.out.b0 n7).size) rfl, fun q => by rw [show updD D 0 7 = D 7 from rfl, n7] at q; cases q⟩
   simp only [setAll, List.foldl_cons, List.foldl_nil, Act.put, List.setIfInBounds_toArray, List.set_cons_succ, List.set_cons_zero]
   try rfl
  refine InvAllF.skip (by kernel_rfl) ?_
  refine InvAllF.skip (by kernel_rfl) ?_
  refine InvAllF.skip (by kernel_rfl) ?_
  refine InvAllF.cons (o := ⟨some 59, _, _, _, _, _⟩) (by kernel_rfl) (fun D s W hD hdep hno hJ K hK => ?_) ?_
  ·
   have n5 : D 5 = false := hno 5 (by kernel_rfl)
   have n6 : D 6 = false := hno 6 (by kernel_rfl)
   have n7 : D 7 = false := hno 7 (by kernel_rfl)
   clear hdep hno
   simp only [setAll, List.foldl_cons, List.foldl_nil, Act.put, List.setIfInBounds_toArray, List.set_cons_succ, List.set_cons_zero]
   have hJ := hJ.1
   have HJ := Lib.hid hJ
   clear hJ
   go_simp
   refine (listR_any c.a c.c c.changes W (HCR.out.ext (HBW.out.trans ((HJ.out.b0 n7).mono HBW.out.size))) HCL.out).mono ?_
   rintro e1 w2 ⟨y, rfl, hyv, hya, hb⟩
   refine hK.out _ _ _ ?_ ⟨HJ.out.opc n7 hb ⟨y, rfl, hyv, hya.mono fun k hk _ => HPP.out k (Nat.le_trans (HJ.out.b0 n7).size hk)⟩, fun q => by rw [show updD D 4 7 = D 7 from rfl, n7] at q; cases q⟩
   simp only [setAll, List.foldl_cons, List.foldl_nil, Act.put, List.setIfInBounds_toArray, List.set_cons_succ, List.set_cons_zero]
   try rfl
  refine InvAllF.cons (o := ⟨some 60, _, _, _, _, _⟩) (by kernel_rfl) (fun D s W hD hdep hno hJ K hK => ?_) ?_
  ·
   have e4 : D 4 = true := hdep 4 (by kernel_rfl)
   have n6 : D 6 = false := hno 6 (by kernel_rfl)
   have n7 : D 7 = false := hno 7 (by kernel_rfl)
   clear hdep hno
   simp only [setAll, List.foldl_cons, List.foldl_nil, Act.put, List.setIfInBounds_toArray, List.set_cons_succ, List.set_cons_zero]
   have hJ := hJ.1
   obtain ⟨y1, q44, qv1, qa1⟩ := hJ.c e4 n7
   have HQ1 := Lib.hid q44
   have HV := Lib.hid (And.intro qv1 qa1)
   clear q44 qv1 qa1
   have HJ := Lib.hid hJ
   clear hJ
   simp only [HQ1.out]
   go_simp
   refine hK.out _ _ _ ?_ ⟨(by have h7 := HJ.out.op5 (x := d5) n7 (HPP.out _ (HJ.out.b0 n7).size) (HDA.out.ext (HJ.out.b0 n7)) HV.out.2 rfl HV.out.1; rw [val_list, val_list] at h7; exact h7), fun q => by rw [show updD D 5 7 = D 7 from rfl, n7] at q; cases q⟩
   simp only [HQ1.out, setAll, List.foldl_cons, List.foldl_nil, Act.put, List.setIfInBounds_toArray, List.set_cons_succ, List.set_cons_zero]
  refine InvAllF.cons (o := ⟨some 61, _, _, _, _, _⟩) (by kernel_rfl) (fun D s W hD hdep hno hJ K hK => ?_) ?_
  ·
   have e0 : D 0 = true := hdep 0 (by kernel_rfl)
   have e4 : D 4 = true := hdep 4 (by kernel_rfl)
   have e5 : D 5 = true := hdep 5 (by kernel_rfl)
   have n7 : D 7 = false := hno 7 (by kernel_rfl)
   clear hdep hno
   simp only [setAll, List.foldl_cons, List.foldl_nil, Act.put, List.setIfInBounds_toArray, List.set_cons_succ, List.set_cons_zero]
   have hJ := hJ.1
   obtain ⟨gk8, q32, pk8, bk8⟩ := hJ.k e0 n7
   obtain ⟨gl8, ys, q39, pl8, bl8, qv8, qa8⟩ := hJ.l e5 n7
   obtain ⟨y1, y2, rfl⟩ : ∃ y1 y2, ys = [y1, y2] := by
    have := congrArg List.length qv8
    simp only [List.length_map, List.length_cons, List.length_nil] at this
    match ys, this with
    | [y1, y2], _ => exact ⟨y1, y2, rfl⟩
   have HQ1 : Hid (s 55 = .slice (some ⟨gk8, 0, none⟩) 2 2) := Lib.hid q32
   have HQ2 : Hid (s 60 = .slice (some ⟨gl8, 0, none⟩) 2 2) := Lib.hid q39
   have HV8 := Lib.hid qv8
   have HD8 := Lib.hid (fun (W' : World) (hb : Below W.heap.size W W') => recD_at (n := 2) (m := 2) (bk8.ext hb) (bl8.ext hb) pk8 pl8 (fun y hy => (qa8 y hy).ext hb))
   clear q32 pk8 bk8 q39 pl8 bl8 qv8 qa8
   have HJ := Lib.hid hJ
   clear hJ
   simp only [HQ1.out, HQ2.out]
   go_simp
   refine (recR_any (some ⟨gk8, 0, none⟩) (some ⟨gl8, 0, none⟩) 2 2 2 2 W).mono ?_
   rintro e1 w2 ⟨rfl, hb⟩
   refine hK.out _ _ _ ?_ ⟨HJ.out.op6 n7 hb ⟨recD gk8 gl8 [kDoc, kChanges] [y1, y2] 2 2, rfl, by rw [recD_v, HV8.out]; rfl, HD8.out _ hb⟩, fun q => by rw [show updD D 6 7 = D 7 from rfl, n7] at q; cases q⟩
   simp only [HQ1.out, HQ2.out, setAll, List.foldl_cons, List.foldl_nil, Act.put, List.setIfInBounds_toArray, List.set_cons_succ, List.set_cons_zero]
   try rfl
  refine InvAllF.cons (o := ⟨none, _, _, _, _, _⟩) (by kernel_rfl) (fun D s W hD hdep hno hJ K hK => ?_) ?_
  ·
   have e0 : D 0 = true := hdep 0 (by kernel_rfl)
   have e4 : D 4 = true := hdep 4 (by kernel_rfl)
   have e5 : D 5 = true := hdep 5 (by kernel_rfl)
   have e6 : D 6 = true := hdep 6 (by kernel_rfl)
   clear hdep hno
   simp only [setAll, List.foldl_cons, List.foldl_nil, Act.put, List.setIfInBounds_toArray, List.set_cons_succ, List.set_cons_zero]
   have hJ := hJ.1
   obtain ⟨y, q40, qv, qa⟩ := hJ.r e6 hD
   have hB := HGVB.out W (hJ.b0 hD)
   have HQ := Lib.hid q40
   have HV := Lib.hid (And.intro qv qa)
   have f0 := hB.free 0
   have f1 := hB.free 1
   have f2 := hB.free 2
   have f3 := hB.free 3
   have f4 := hB.free 4
   have f5 := hB.free 5
   obtain ⟨z0, z1, z2, z3, z4, z5⟩ := hB.sixT
   clear q40 qv qa hB
   have HJ := Lib.hid hJ
   clear hJ
   simp only [HQ.out]
   go_simp
   refine hK.out _ undef _ ?_ ⟨HJ.out.op7 hD HV.out.1 HV.out.2, fun _ => ⟨(put6_other HNE.out.1).trans (HK9.out W (HJ.out.b0 hD)).1, (put6_other HNE.out.2).trans (HK9.out W (HJ.out.b0 hD)).2⟩⟩
   simp only [HQ.out, setAll, List.foldl_cons, List.foldl_nil, Act.put, List.setIfInBounds_toArray, List.set_cons_succ, List.set_cons_zero]
  exact InvAllF.nil
 ·
  intro D s W hD hJ
  obtain ⟨W', y, hb, hW, hyv, hya⟩ := hJ.1.fin (hD 7 (by decide))
  have hbz : Below w.heap.size w W := by rw [hW]; exact put6_below (HBW.out.trans (hb.mono HBW.out.size)) (by omega)
  have hxb : Blk W (w.heap.size + 1) #[.int .i64 y.sort, .bool y.on, .int .i64 y.n, .string ⟨y.text.toArray⟩, .slice y.a y.list.length y.c, .slice y.ka y.keys.length y.kc] 26 := by rw [hW]; exact store6T (HGVB.out _ hb)
  have hxa : ValAt W (fun k => w.heap.size + 2 ≤ k) y := by rw [hW]; exact hya.congr fun j hj _ => put6_other (by omega)
  simp only [setAll, List.foldl_cons, List.foldl_nil, Act.put, List.setIfInBounds_toArray, List.set_cons_succ, List.set_cons_zero]
  have HF : Hid (DocP w P (paramsW c.k) (.returned (.agg #[.int .i64 y.sort, .bool y.on, .int .i64 y.n, .string ⟨y.text.toArray⟩, .slice y.a y.list.length y.c, .slice y.ka y.keys.length y.kc])) W) := Lib.hid ⟨y, rfl, by
   rw [hyv, HDV.out]
   have hkk : c.k.kind = 5 := by show c.kind.toNat = 5; rw [HK.out]; rfl
   unfold paramsW; rw [if_neg (by rw [hkk]; decide), if_neg (by rw [hkk]; decide), if_pos hkk, if_pos hkk]
   rfl, hxa.mono fun g hg _ => HP.out g (by omega), hbz⟩
  have HXB := Lib.hid hxb
  clear hJ hD hb hW hyv hya hbz hxa hxb
  generalize s 55 = u41
  generalize s 59 = u44
  generalize s 60 = u46
  generalize s 61 = u47
  clear s D
  go_wp2
  exact toldR_end (g := w.heap.size + 1) rfl HXB.out HF.out
theorem toldR_any (P : Nat → Prop) (c : CD) (w : World) (hP : ∀ g, w.heap.size ≤ g → P g) (h4 : 4 ≤ c.kind) (h9 : c.kind ≤ 9) (hc : ValAt w P c.other) (hrow : Row w 6 c.a c.changes.length (c.changes.flatMap E.cells)) (hn : c.changes.length ≤ 1048576) :
    Calls Tryz.prog 58 #[.agg (cdC c)] w (DocP w P (paramsW c.k)) := by
  rcases (show c.kind = 4 ∨ c.kind = 5 ∨ c.kind = 6 ∨ c.kind = 7 ∨ c.kind = 8 ∨ c.kind = 9 by omega) with h | h | h | h | h | h
  · exact toldR_4 P c w hP h hc hrow hn
  · exact toldR_5 P c w hP h hc hrow hn
  · exact toldR_6 P c w hP h hc hrow hn
  · exact toldR_7 P c w hP h hc hrow hn
  · exact toldR_8 P c w hP h hc hrow hn
  · exact toldR_9 P c w hP h hc hrow hn
end Go.Proofs.YthnbeebilomchaaGreatDoor
