/- A call's params as a value: walked, all kinds but the changes. A call's params as a value: the changes; walked. rpc.Write: walked. The live question of layer 4: walked. The document's Fail: walked. rpc.Reply, with what its rows are: walked. A value is copied into the program's type; walked. -/
import Derived.Test.YthnbeebilomchaaGreatDoorMb5
import Derived.Deep.RegionHeld3
import Derived.Deep.CutRange
import Derived.Test.YthnbeebilomchaaGreatDoorMb4
namespace Go.Proofs.YthnbeebilomchaaGreatDoor
open Go Go.RowKit

theorem Tryz.infoPart : (Tryz.prog.info? 74).map (fun i => (i.zero, i.size, i.bytes)) = some (some (.agg #[.string ByteArray.empty, .int .i64 0, .bool false, .int .i64 0, .string ByteArray.empty, .slice none 0 0, .slice none 0 0]), 7, 104) := by kernel_rfl
theorem own_blk {W : World} {base g n sz : Nat} {T : TypeId} {cs : Array Value} (h : Blk W g cs T) (hb : base ≤ g) (hs : cs.size = n * sz) (hn : n ≤ maxLen) : Own W base T sz (some ⟨g, 0, none⟩) n n cs.toList :=
  ⟨by rw [Array.length_toList]; exact hs, .inr ⟨g, 0, cs, rfl, hb, h, Nat.le_refl _, hn, by omega, by rw [List.drop_zero, List.take_of_length_le (by rw [Array.length_toList]; omega)]⟩⟩
theorem ptC_one {l : List Pt} : ∀ u ∈ l.flatMap ptC, u.oneCell' = true := by
  intro u hu
  obtain ⟨p, -, hp⟩ := List.mem_flatMap.1 hu
  obtain ⟨k, s, o, n, t, va, vc, l2, ka, kc, ks⟩ := p
  simp [ptC, VD.cells, strV] at hp
  rcases hp with rfl | rfl | rfl | rfl | rfl | rfl | rfl <;> rfl
/-- what stands between two steps -/
structure PaS (w : World) (c : CD) (W : World) : Prop where
  below : Below w.heap.size w W
  cblk : Blk W w.heap.size (cdC c) 43
  rblk : Blk W (w.heap.size + 1) #[.int .i64 0, .bool false, .int .i64 0, .string { data := #[] }, .slice none 0 0, .slice none 0 0] 36
theorem PaS.ext {w : World} {c : CD} {W W' : World} (h : PaS w c W) (hb : Below W.heap.size W W') : PaS w c W' := ⟨h.below.trans (hb.mono h.below.size), h.cblk.ext hb, h.rblk.ext hb⟩
theorem PaS.grow {w : World} {c : CD} {W W' : World} (h : PaS w c W) {row : Option Nat} (hg : W.grownBy W' row) (hr : ∀ k, row = some k → w.heap.size + 2 ≤ k) : PaS w c W' := by
  have hlo : ∀ k, k < w.heap.size + 2 → some k ≠ row := fun k hk e => by have := hr k e.symm; omega
  exact ⟨⟨hg.os.trans h.below.os, hg.tape.trans h.below.tape, hg.output.trans h.below.output, Nat.le_trans h.below.size hg.size, fun k hk => (hg.block k (by have := h.below.size; omega) (hlo k (by omega))).trans (h.below.block k hk)⟩, h.cblk.grown hg (hlo _ (by omega)), h.rblk.grown hg (hlo _ (by omega))⟩
theorem PaS.sz {w : World} {c : CD} {W : World} (h : PaS w c W) : w.heap.size + 2 ≤ W.heap.size := h.rblk.lt
theorem paramsW_9 (c : C) (h : c.kind = 9) : paramsW c = recW [(kId, c.other)] := by unfold paramsW; rw [if_pos h]
theorem params_end {W : World} {tm : Array Value} {R : Ending → World → Prop} {g : Nat} {u0 u1 u2 u3 u4 u5 : Value} (h2 : tm.getD 2 undef = .pointer (some ⟨g, 0, none⟩)) (hB : Blk W g #[u0, u1, u2, u3, u4, u5] 36)
    (hR : R (.returned (.agg #[u0, u1, u2, u3, u4, u5])) W) : bodyPost Tryz.prog Tryz.f31 R .ret { tmps := tm, defers := [] } W := by
  have d0 := hB.cell 0
  have d1 := hB.cell 1
  have d2 := hB.cell 2
  have d3 := hB.cell 3
  have d4 := hB.cell 4
  have d5 := hB.cell 5
  simp only [List.getElem?_toArray, List.getElem?_cons_zero, List.getElem?_cons_succ] at d0 d1 d2 d3 d4 d5
  rw [Array.getD_eq_getD_getElem?] at h2
  refine bodyPost_ret (v := .agg #[u0, u1, u2, u3, u4, u5]) ?_ rfl hR
  simp [results, Tryz.results31, go_sem, h2, d0, d1, d2, d3, d4, d5]
set_option maxHeartbeats 4000000 in
set_option maxRecDepth 20000 in
theorem params_9 (P : Nat → Prop) (c : CD) (w : World) (hP : ∀ g, w.heap.size ≤ g → P g) (hk : c.kind = 9) (hc : ValAt w P c.other) : Calls Tryz.prog 31 #[.agg (cdC c)] w (DocP w P (paramsW c.k)) := by
  obtain ⟨W0, hW0⟩ : ∃ W0, W0 = (w.alloc (.cells (cdC c) 43)).alloc (.cells #[.int .i64 0, .bool false, .int .i64 0, .string { data := #[] }, .slice none 0 0, .slice none 0 0] 36) := ⟨_, rfl⟩
  have hb0 : Below w.heap.size w W0 := by rw [hW0]; exact (below_a1 w _).alloc (by simp) _
  have HS : Hid (PaS w c W0) := Lib.hid ⟨hb0, by rw [hW0]; exact (Blk.new rfl).alloc _, by rw [hW0]; exact Blk.new (by simp)⟩
  have HOV : Hid (ValAt w (fun g => P g ∧ g ≠ w.heap.size + 1) c.other) := Lib.hid (hc.mono fun g h1 h2 => ⟨h1, by omega⟩)
  have HP := Lib.hid hP
  have HPP : Hid (∀ W : World, w.heap.size + 2 ≤ W.heap.size → ∀ g, W.heap.size ≤ g → (P g ∧ g ≠ w.heap.size + 1)) := Lib.hid fun W h g hg => ⟨hP g (by omega), by omega⟩
  have c0 : W0.cell? ⟨w.heap.size, 0, none⟩ = some (.int .i64 9) := by rw [← hk]; exact HS.out.cblk.cell 0
  have HK := Lib.hid hk
  clear hP hc hb0 hk
  go_enter Tryz.func31, Tryz.ntmps31
  go_upto_region 1 with (fail)
  rw [← hW0]
  clear hW0
  have c7 := HS.out.cblk.cell 7
  unfold cdC at c7
  simp only [List.getElem?_toArray, List.getElem?_cons_zero, List.getElem?_cons_succ] at c7
  obtain ⟨nm, hnm⟩ : ∃ q, q = c.name := ⟨_, rfl⟩
  rw [← hnm] at c7
  have HNM := Lib.hid hnm
  clear hnm
  go_wp2_with fail
  refine (str_any nm W0).mono ?_
  rintro e w1 ⟨rfl, hb⟩
  have HSn := Lib.hid (HS.out.ext hb)
  clear hb HS
  have HS := HSn
  clear HSn
  clear c0 c7
  obtain ⟨gd, hgd⟩ : ∃ gd, gd = w1.heap.size := ⟨_, rfl⟩
  obtain ⟨w2, hw2⟩ : ∃ w2, w2 = w1.alloc (.cells ([(kUri, strD nm)].flatMap ptC).toArray 74) := ⟨_, rfl⟩
  have hb : Below w1.heap.size w1 w2 := by rw [hw2]; exact below_a1 _ _
  have HPgd : Hid (PtsAt w2 (fun g => P g ∧ g ≠ w.heap.size + 1) (some ⟨gd, 0, none⟩) [(kUri, strD nm)]) := Lib.hid ⟨by rw [hw2, hgd]; exact row_blk (Blk.new rfl) (flat_length ptC 7 ptC_len _), fun p hp => by
    simp only [List.mem_cons, List.mem_nil_iff, or_false] at hp
    rcases hp with rfl
    exact .leaf⟩
  have HOgd : Hid (Own w2 (w.heap.size + 2) 74 7 (some ⟨gd, 0, none⟩) [(kUri, strD nm)].length [(kUri, strD nm)].length ([(kUri, strD nm)].flatMap ptC)) := Lib.hid (by have := HS.out.sz; rw [hw2, hgd]; exact own_blk (cs := ([(kUri, strD nm)].flatMap ptC).toArray) (Blk.new rfl) (by omega) (by rw [List.size_toArray]; exact flat_length ptC 7 ptC_len _) (by simp [maxLen]))
  have HSn := Lib.hid (HS.out.ext hb)
  clear hb HS
  have HS := HSn
  clear HSn
  simp only [List.flatMap_cons, List.flatMap_nil] at hw2
  try simp only [ptC_str] at hw2
  try simp only [ptC_num] at hw2
  try simp only [ptC_of] at hw2
  try simp only [List.cons_append, List.nil_append] at hw2
  simp only [List.append_nil, kUri] at hw2
  go_upto_region 2 with (fail)
  rw [← hw2, ← hgd]
  clear hw2 hgd
  have c0 : w2.cell? ⟨w.heap.size, 0, none⟩ = some (.int .i64 9) := by rw [← HK.out]; exact HS.out.cblk.cell 0
  go_upto_region 5 with (fail)
  have c13 := HS.out.cblk.cell 13
  have c14 := HS.out.cblk.cell 14
  have c15 := HS.out.cblk.cell 15
  have c16 := HS.out.cblk.cell 16
  have c17 := HS.out.cblk.cell 17
  have c18 := HS.out.cblk.cell 18
  unfold cdC at c13 c14 c15 c16 c17 c18
  simp only [List.getElem?_toArray, List.getElem?_cons_zero, List.getElem?_cons_succ] at c13 c14 c15 c16 c17 c18
  obtain ⟨gi, hgi⟩ : ∃ gi, gi = w2.heap.size := ⟨_, rfl⟩
  obtain ⟨w3, hw3⟩ : ∃ w3, w3 = w2.alloc (.cells ([(kId, c.other)].flatMap ptC).toArray 74) := ⟨_, rfl⟩
  have hb : Below w2.heap.size w2 w3 := by rw [hw3]; exact below_a1 _ _
  have HPgi : Hid (PtsAt w3 (fun g => P g ∧ g ≠ w.heap.size + 1) (some ⟨gi, 0, none⟩) [(kId, c.other)]) := Lib.hid ⟨by rw [hw3, hgi]; exact row_blk (Blk.new rfl) (flat_length ptC 7 ptC_len _), fun p hp => by
    simp only [List.mem_cons, List.mem_nil_iff, or_false] at hp
    rcases hp with rfl
    exact HOV.out.ext (HS.out.below.trans (hb.mono HS.out.below.size))⟩
  have HOgi : Hid (Own w3 (w.heap.size + 2) 74 7 (some ⟨gi, 0, none⟩) [(kId, c.other)].length [(kId, c.other)].length ([(kId, c.other)].flatMap ptC)) := Lib.hid (by have := HS.out.sz; rw [hw3, hgi]; exact own_blk (cs := ([(kId, c.other)].flatMap ptC).toArray) (Blk.new rfl) (by omega) (by rw [List.size_toArray]; exact flat_length ptC 7 ptC_len _) (by simp [maxLen]))
  have HSn := Lib.hid (HS.out.ext hb)
  clear hb HS
  have HS := HSn
  clear HSn
  simp only [List.flatMap_cons, List.flatMap_nil] at hw3
  try simp only [ptC_str] at hw3
  try simp only [ptC_num] at hw3
  try simp only [ptC_of] at hw3
  try simp only [List.cons_append, List.nil_append] at hw3
  simp only [List.append_nil, kId] at hw3
  go_wp2_with fail
  rw [← hw3, ← hgi]
  clear hw3 hgi c13 c14 c15 c16 c17 c18
  have hR := record_any (fun g => P g ∧ g ≠ w.heap.size + 1) (some ⟨gi, 0, none⟩) 1 [(kId, c.other)] w3 (HPP.out _ HS.out.sz) HPgi.out (by simp)
  simp only [List.length_cons, List.length_nil, Nat.zero_add, Nat.reduceAdd] at hR
  refine hR.mono ?_
  clear hR
  rintro e w4 ⟨d, rfl, hvd, hdd, hb⟩
  have HVd := Lib.hid hvd
  have HDd := Lib.hid hdd
  clear hvd hdd
  have HSn := Lib.hid (HS.out.ext hb)
  clear hb HS
  have HS := HSn
  clear HSn
  have f0 := HS.out.rblk.free 0
  have f1 := HS.out.rblk.free 1
  have f2 := HS.out.rblk.free 2
  have f3 := HS.out.rblk.free 3
  have f4 := HS.out.rblk.free 4
  have f5 := HS.out.rblk.free 5
  obtain ⟨z0, z1, z2, z3, z4, z5⟩ := HS.out.rblk.sixT
  go_wp2
  refine params_end (g := w.heap.size + 1) rfl (store6 HS.out.rblk) ?_
  refine docS (P := P) (o := 0) ?_ HDd.out (fun g h => ⟨h.2, h.1⟩) HS.out.below (by omega)
  rw [HVd.out, paramsW_9 _ (by show c.kind.toNat = 9; rw [HK.out]; rfl)]
  rfl
theorem paramsW_doc (c : C) (h : c.kind = 6 ∨ c.kind = 8) : paramsW c = recW [(kDoc, recW [(kUri, strW c.name)])] := by
  unfold paramsW; rcases h with h | h <;> simp [h]
theorem paramsW_7 (c : C) (h : c.kind = 7) : paramsW c = recW [(kDoc, recW [(kUri, strW c.name)]), (kPosition, atW c.pl c.pu)] := by unfold paramsW; simp [h]
theorem paramsW_4 (c : C) (h : c.kind = 4) : paramsW c = recW [(kDoc, recW [(kUri, strW c.name), (kVersion, numW c.version), (kText, strW c.text)])] := by unfold paramsW; simp [h]
theorem paramsW_5 (c : C) (h : c.kind = 5) : paramsW c = recW [(kDoc, recW [(kUri, strW c.name), (kVersion, numW c.version)]), (kChanges, listW (c.changes.map editW))] := by unfold paramsW; simp [h]
set_option maxHeartbeats 4000000 in
set_option maxRecDepth 20000 in
theorem params_6 (P : Nat → Prop) (c : CD) (w : World) (hP : ∀ g, w.heap.size ≤ g → P g) (hk : c.kind = 6) (hc : ValAt w P c.other) : Calls Tryz.prog 31 #[.agg (cdC c)] w (DocP w P (paramsW c.k)) := by
  obtain ⟨W0, hW0⟩ : ∃ W0, W0 = (w.alloc (.cells (cdC c) 43)).alloc (.cells #[.int .i64 0, .bool false, .int .i64 0, .string { data := #[] }, .slice none 0 0, .slice none 0 0] 36) := ⟨_, rfl⟩
  have hb0 : Below w.heap.size w W0 := by rw [hW0]; exact (below_a1 w _).alloc (by simp) _
  have HS : Hid (PaS w c W0) := Lib.hid ⟨hb0, by rw [hW0]; exact (Blk.new rfl).alloc _, by rw [hW0]; exact Blk.new (by simp)⟩
  have HOV : Hid (ValAt w (fun g => P g ∧ g ≠ w.heap.size + 1) c.other) := Lib.hid (hc.mono fun g h1 h2 => ⟨h1, by omega⟩)
  have HP := Lib.hid hP
  have HPP : Hid (∀ W : World, w.heap.size + 2 ≤ W.heap.size → ∀ g, W.heap.size ≤ g → (P g ∧ g ≠ w.heap.size + 1)) := Lib.hid fun W h g hg => ⟨hP g (by omega), by omega⟩
  have c0 : W0.cell? ⟨w.heap.size, 0, none⟩ = some (.int .i64 6) := by rw [← hk]; exact HS.out.cblk.cell 0
  have HK := Lib.hid hk
  clear hP hc hb0 hk
  go_enter Tryz.func31, Tryz.ntmps31
  go_upto_region 1 with (fail)
  rw [← hW0]
  clear hW0
  have c7 := HS.out.cblk.cell 7
  unfold cdC at c7
  simp only [List.getElem?_toArray, List.getElem?_cons_zero, List.getElem?_cons_succ] at c7
  obtain ⟨nm, hnm⟩ : ∃ q, q = c.name := ⟨_, rfl⟩
  rw [← hnm] at c7
  have HNM := Lib.hid hnm
  clear hnm
  go_wp2_with fail
  refine (str_any nm W0).mono ?_
  rintro e w1 ⟨rfl, hb⟩
  have HSn := Lib.hid (HS.out.ext hb)
  clear hb HS
  have HS := HSn
  clear HSn
  clear c0 c7
  obtain ⟨gd, hgd⟩ : ∃ gd, gd = w1.heap.size := ⟨_, rfl⟩
  obtain ⟨w2, hw2⟩ : ∃ w2, w2 = w1.alloc (.cells ([(kUri, strD nm)].flatMap ptC).toArray 74) := ⟨_, rfl⟩
  have hb : Below w1.heap.size w1 w2 := by rw [hw2]; exact below_a1 _ _
  have HPgd : Hid (PtsAt w2 (fun g => P g ∧ g ≠ w.heap.size + 1) (some ⟨gd, 0, none⟩) [(kUri, strD nm)]) := Lib.hid ⟨by rw [hw2, hgd]; exact row_blk (Blk.new rfl) (flat_length ptC 7 ptC_len _), fun p hp => by
    simp only [List.mem_cons, List.mem_nil_iff, or_false] at hp
    rcases hp with rfl
    exact .leaf⟩
  have HOgd : Hid (Own w2 (w.heap.size + 2) 74 7 (some ⟨gd, 0, none⟩) [(kUri, strD nm)].length [(kUri, strD nm)].length ([(kUri, strD nm)].flatMap ptC)) := Lib.hid (by have := HS.out.sz; rw [hw2, hgd]; exact own_blk (cs := ([(kUri, strD nm)].flatMap ptC).toArray) (Blk.new rfl) (by omega) (by rw [List.size_toArray]; exact flat_length ptC 7 ptC_len _) (by simp [maxLen]))
  have HSn := Lib.hid (HS.out.ext hb)
  clear hb HS
  have HS := HSn
  clear HSn
  simp only [List.flatMap_cons, List.flatMap_nil] at hw2
  try simp only [ptC_str] at hw2
  try simp only [ptC_num] at hw2
  try simp only [ptC_of] at hw2
  try simp only [List.cons_append, List.nil_append] at hw2
  simp only [List.append_nil, kUri] at hw2
  go_upto_region 2 with (fail)
  rw [← hw2, ← hgd]
  clear hw2 hgd
  have c0 : w2.cell? ⟨w.heap.size, 0, none⟩ = some (.int .i64 6) := by rw [← HK.out]; exact HS.out.cblk.cell 0
  go_upto_region 22 with (fail)
  go_wp2_with fail
  have hR := record_any (fun g => P g ∧ g ≠ w.heap.size + 1) (some ⟨gd, 0, none⟩) 1 [(kUri, strD nm)] w2 (HPP.out _ HS.out.sz) HPgd.out (by simp)
  simp only [List.length_cons, List.length_nil, Nat.zero_add, Nat.reduceAdd] at hR
  refine hR.mono ?_
  clear hR
  rintro e wr ⟨d1, rfl, hvd1, hdd1, hb⟩
  have HVd1 := Lib.hid hvd1
  have HDd1 := Lib.hid hdd1
  clear hvd1 hdd1
  have HSn := Lib.hid (HS.out.ext hb)
  clear hb HS
  have HS := HSn
  clear HSn
  go_wp2_with (at_builtin; refine wpList_append_Own rfl _ _ 75 rfl (w.heap.size + 2) 74 _ 7 104 Tryz.underlying75 Tryz.infoPart rfl (by decide) _ 1 1 [.string ⟨kDoc.toArray⟩, .int .i64 d1.sort, .bool d1.on, .int .i64 d1.n, .string ⟨d1.text.toArray⟩, .slice d1.a d1.list.length d1.c, .slice d1.ka d1.keys.length d1.kc] rfl (by exact own_blk (cs := #[.string ⟨kDoc.toArray⟩, .int .i64 d1.sort, .bool d1.on, .int .i64 d1.n, .string ⟨d1.text.toArray⟩, .slice d1.a d1.list.length d1.c, .slice d1.ka d1.keys.length d1.kc]) (Blk.new rfl) HS.out.sz rfl (by simp [maxLen])) none 0 0 (([] : List Pt).flatMap ptC) rfl (Row.nil _ _ _) ptC_one (by simp [maxLen]) (by simp) (by have := HS.out.sz; simp; omega) ?_; intro a5 c5 w5 ho5 hg5 hb5)
  have hb : Below wr.heap.size wr w5 := (below_a1 wr _).grown hg5 (by simp) (fun k hk => by simp [rowOf, blockOf] at hk; omega)
  have HR5 : Hid (Row w5 7 a5 ((kDoc, d1) :: ([] : List Pt)).length (((kDoc, d1) :: ([] : List Pt)).flatMap ptC)) := Lib.hid (by rw [List.flatMap_cons, ptC_of]; exact ho5.row)
  clear ho5 hg5 hb5
  have HSn := Lib.hid (HS.out.ext hb)
  have HDd1n := Lib.hid (HDd1.out.ext hb)
  clear HDd1
  have HDd1 := HDd1n
  clear HDd1n
  clear hb HS
  have HS := HSn
  clear HSn
  have HP5 : Hid (PtsAt w5 (fun g => P g ∧ g ≠ w.heap.size + 1) a5 ((kDoc, d1) :: ([] : List Pt))) := Lib.hid ⟨HR5.out, fun p hp => by
    rcases List.mem_cons.1 hp with rfl | hp
    · exact HDd1.out
    · cases hp⟩
  try simp only [Nat.reduceAdd]
  have hR := record_any (fun g => P g ∧ g ≠ w.heap.size + 1) a5 c5 ((kDoc, d1) :: ([] : List Pt)) w5 (HPP.out _ HS.out.sz) HP5.out (by simp)
  simp only [List.length_cons, List.length_nil, Nat.zero_add, Nat.reduceAdd] at hR
  refine hR.mono ?_
  clear hR
  rintro e wy ⟨d2, rfl, hvd2, hdd2, hb⟩
  have HVd2 := Lib.hid hvd2
  have HDd2 := Lib.hid hdd2
  clear hvd2 hdd2
  have HSn := Lib.hid (HS.out.ext hb)
  clear hb HS
  have HS := HSn
  clear HSn
  have f0 := HS.out.rblk.free 0
  have f1 := HS.out.rblk.free 1
  have f2 := HS.out.rblk.free 2
  have f3 := HS.out.rblk.free 3
  have f4 := HS.out.rblk.free 4
  have f5 := HS.out.rblk.free 5
  obtain ⟨z0, z1, z2, z3, z4, z5⟩ := HS.out.rblk.sixT
  go_wp2
  refine params_end (g := w.heap.size + 1) rfl (store6 HS.out.rblk) ?_
  refine docS (P := P) (o := 0) ?_ HDd2.out (fun g h => ⟨h.2, h.1⟩) HS.out.below (by omega)
  rw [HVd2.out, paramsW_doc _ (by show c.kind.toNat = 6 ∨ c.kind.toNat = 8; rw [HK.out]; decide)]
  show recW [(kDoc, d1.v)] = _
  rw [HVd1.out, HNM.out]
  rfl
set_option maxHeartbeats 4000000 in
set_option maxRecDepth 20000 in
theorem params_8 (P : Nat → Prop) (c : CD) (w : World) (hP : ∀ g, w.heap.size ≤ g → P g) (hk : c.kind = 8) (hc : ValAt w P c.other) : Calls Tryz.prog 31 #[.agg (cdC c)] w (DocP w P (paramsW c.k)) := by
  obtain ⟨W0, hW0⟩ : ∃ W0, W0 = (w.alloc (.cells (cdC c) 43)).alloc (.cells #[.int .i64 0, .bool false, .int .i64 0, .string { data := #[] }, .slice none 0 0, .slice none 0 0] 36) := ⟨_, rfl⟩
  have hb0 : Below w.heap.size w W0 := by rw [hW0]; exact (below_a1 w _).alloc (by simp) _
  have HS : Hid (PaS w c W0) := Lib.hid ⟨hb0, by rw [hW0]; exact (Blk.new rfl).alloc _, by rw [hW0]; exact Blk.new (by simp)⟩
  have HOV : Hid (ValAt w (fun g => P g ∧ g ≠ w.heap.size + 1) c.other) := Lib.hid (hc.mono fun g h1 h2 => ⟨h1, by omega⟩)
  have HP := Lib.hid hP
  have HPP : Hid (∀ W : World, w.heap.size + 2 ≤ W.heap.size → ∀ g, W.heap.size ≤ g → (P g ∧ g ≠ w.heap.size + 1)) := Lib.hid fun W h g hg => ⟨hP g (by omega), by omega⟩
  have c0 : W0.cell? ⟨w.heap.size, 0, none⟩ = some (.int .i64 8) := by rw [← hk]; exact HS.out.cblk.cell 0
  have HK := Lib.hid hk
  clear hP hc hb0 hk
  go_enter Tryz.func31, Tryz.ntmps31
  go_upto_region 1 with (fail)
  rw [← hW0]
  clear hW0
  have c7 := HS.out.cblk.cell 7
  unfold cdC at c7
  simp only [List.getElem?_toArray, List.getElem?_cons_zero, List.getElem?_cons_succ] at c7
  obtain ⟨nm, hnm⟩ : ∃ q, q = c.name := ⟨_, rfl⟩
  rw [← hnm] at c7
  have HNM := Lib.hid hnm
  clear hnm
  go_wp2_with fail
  refine (str_any nm W0).mono ?_
  rintro e w1 ⟨rfl, hb⟩
  have HSn := Lib.hid (HS.out.ext hb)
  clear hb HS
  have HS := HSn
  clear HSn
  clear c0 c7
  obtain ⟨gd, hgd⟩ : ∃ gd, gd = w1.heap.size := ⟨_, rfl⟩
  obtain ⟨w2, hw2⟩ : ∃ w2, w2 = w1.alloc (.cells ([(kUri, strD nm)].flatMap ptC).toArray 74) := ⟨_, rfl⟩
  have hb : Below w1.heap.size w1 w2 := by rw [hw2]; exact below_a1 _ _
  have HPgd : Hid (PtsAt w2 (fun g => P g ∧ g ≠ w.heap.size + 1) (some ⟨gd, 0, none⟩) [(kUri, strD nm)]) := Lib.hid ⟨by rw [hw2, hgd]; exact row_blk (Blk.new rfl) (flat_length ptC 7 ptC_len _), fun p hp => by
    simp only [List.mem_cons, List.mem_nil_iff, or_false] at hp
    rcases hp with rfl
    exact .leaf⟩
  have HOgd : Hid (Own w2 (w.heap.size + 2) 74 7 (some ⟨gd, 0, none⟩) [(kUri, strD nm)].length [(kUri, strD nm)].length ([(kUri, strD nm)].flatMap ptC)) := Lib.hid (by have := HS.out.sz; rw [hw2, hgd]; exact own_blk (cs := ([(kUri, strD nm)].flatMap ptC).toArray) (Blk.new rfl) (by omega) (by rw [List.size_toArray]; exact flat_length ptC 7 ptC_len _) (by simp [maxLen]))
  have HSn := Lib.hid (HS.out.ext hb)
  clear hb HS
  have HS := HSn
  clear HSn
  simp only [List.flatMap_cons, List.flatMap_nil] at hw2
  try simp only [ptC_str] at hw2
  try simp only [ptC_num] at hw2
  try simp only [ptC_of] at hw2
  try simp only [List.cons_append, List.nil_append] at hw2
  simp only [List.append_nil, kUri] at hw2
  go_upto_region 2 with (fail)
  rw [← hw2, ← hgd]
  clear hw2 hgd
  have c0 : w2.cell? ⟨w.heap.size, 0, none⟩ = some (.int .i64 8) := by rw [← HK.out]; exact HS.out.cblk.cell 0
  go_upto_region 22 with (fail)
  go_wp2_with fail
  have hR := record_any (fun g => P g ∧ g ≠ w.heap.size + 1) (some ⟨gd, 0, none⟩) 1 [(kUri, strD nm)] w2 (HPP.out _ HS.out.sz) HPgd.out (by simp)
  simp only [List.length_cons, List.length_nil, Nat.zero_add, Nat.reduceAdd] at hR
  refine hR.mono ?_
  clear hR
  rintro e wr ⟨d1, rfl, hvd1, hdd1, hb⟩
  have HVd1 := Lib.hid hvd1
  have HDd1 := Lib.hid hdd1
  clear hvd1 hdd1
  have HSn := Lib.hid (HS.out.ext hb)
  clear hb HS
  have HS := HSn
  clear HSn
  go_wp2_with (at_builtin; refine wpList_append_Own rfl _ _ 75 rfl (w.heap.size + 2) 74 _ 7 104 Tryz.underlying75 Tryz.infoPart rfl (by decide) _ 1 1 [.string ⟨kDoc.toArray⟩, .int .i64 d1.sort, .bool d1.on, .int .i64 d1.n, .string ⟨d1.text.toArray⟩, .slice d1.a d1.list.length d1.c, .slice d1.ka d1.keys.length d1.kc] rfl (by exact own_blk (cs := #[.string ⟨kDoc.toArray⟩, .int .i64 d1.sort, .bool d1.on, .int .i64 d1.n, .string ⟨d1.text.toArray⟩, .slice d1.a d1.list.length d1.c, .slice d1.ka d1.keys.length d1.kc]) (Blk.new rfl) HS.out.sz rfl (by simp [maxLen])) none 0 0 (([] : List Pt).flatMap ptC) rfl (Row.nil _ _ _) ptC_one (by simp [maxLen]) (by simp) (by have := HS.out.sz; simp; omega) ?_; intro a5 c5 w5 ho5 hg5 hb5)
  have hb : Below wr.heap.size wr w5 := (below_a1 wr _).grown hg5 (by simp) (fun k hk => by simp [rowOf, blockOf] at hk; omega)
  have HR5 : Hid (Row w5 7 a5 ((kDoc, d1) :: ([] : List Pt)).length (((kDoc, d1) :: ([] : List Pt)).flatMap ptC)) := Lib.hid (by rw [List.flatMap_cons, ptC_of]; exact ho5.row)
  clear ho5 hg5 hb5
  have HSn := Lib.hid (HS.out.ext hb)
  have HDd1n := Lib.hid (HDd1.out.ext hb)
  clear HDd1
  have HDd1 := HDd1n
  clear HDd1n
  clear hb HS
  have HS := HSn
  clear HSn
  have HP5 : Hid (PtsAt w5 (fun g => P g ∧ g ≠ w.heap.size + 1) a5 ((kDoc, d1) :: ([] : List Pt))) := Lib.hid ⟨HR5.out, fun p hp => by
    rcases List.mem_cons.1 hp with rfl | hp
    · exact HDd1.out
    · cases hp⟩
  try simp only [Nat.reduceAdd]
  have hR := record_any (fun g => P g ∧ g ≠ w.heap.size + 1) a5 c5 ((kDoc, d1) :: ([] : List Pt)) w5 (HPP.out _ HS.out.sz) HP5.out (by simp)
  simp only [List.length_cons, List.length_nil, Nat.zero_add, Nat.reduceAdd] at hR
  refine hR.mono ?_
  clear hR
  rintro e wy ⟨d2, rfl, hvd2, hdd2, hb⟩
  have HVd2 := Lib.hid hvd2
  have HDd2 := Lib.hid hdd2
  clear hvd2 hdd2
  have HSn := Lib.hid (HS.out.ext hb)
  clear hb HS
  have HS := HSn
  clear HSn
  have f0 := HS.out.rblk.free 0
  have f1 := HS.out.rblk.free 1
  have f2 := HS.out.rblk.free 2
  have f3 := HS.out.rblk.free 3
  have f4 := HS.out.rblk.free 4
  have f5 := HS.out.rblk.free 5
  obtain ⟨z0, z1, z2, z3, z4, z5⟩ := HS.out.rblk.sixT
  go_wp2
  refine params_end (g := w.heap.size + 1) rfl (store6 HS.out.rblk) ?_
  refine docS (P := P) (o := 0) ?_ HDd2.out (fun g h => ⟨h.2, h.1⟩) HS.out.below (by omega)
  rw [HVd2.out, paramsW_doc _ (by show c.kind.toNat = 6 ∨ c.kind.toNat = 8; rw [HK.out]; decide)]
  show recW [(kDoc, d1.v)] = _
  rw [HVd1.out, HNM.out]
  rfl
set_option maxHeartbeats 4000000 in
set_option maxRecDepth 20000 in
theorem params_7 (P : Nat → Prop) (c : CD) (w : World) (hP : ∀ g, w.heap.size ≤ g → P g) (hk : c.kind = 7) (hc : ValAt w P c.other) : Calls Tryz.prog 31 #[.agg (cdC c)] w (DocP w P (paramsW c.k)) := by
  obtain ⟨W0, hW0⟩ : ∃ W0, W0 = (w.alloc (.cells (cdC c) 43)).alloc (.cells #[.int .i64 0, .bool false, .int .i64 0, .string { data := #[] }, .slice none 0 0, .slice none 0 0] 36) := ⟨_, rfl⟩
  have hb0 : Below w.heap.size w W0 := by rw [hW0]; exact (below_a1 w _).alloc (by simp) _
  have HS : Hid (PaS w c W0) := Lib.hid ⟨hb0, by rw [hW0]; exact (Blk.new rfl).alloc _, by rw [hW0]; exact Blk.new (by simp)⟩
  have HOV : Hid (ValAt w (fun g => P g ∧ g ≠ w.heap.size + 1) c.other) := Lib.hid (hc.mono fun g h1 h2 => ⟨h1, by omega⟩)
  have HP := Lib.hid hP
  have HPP : Hid (∀ W : World, w.heap.size + 2 ≤ W.heap.size → ∀ g, W.heap.size ≤ g → (P g ∧ g ≠ w.heap.size + 1)) := Lib.hid fun W h g hg => ⟨hP g (by omega), by omega⟩
  have c0 : W0.cell? ⟨w.heap.size, 0, none⟩ = some (.int .i64 7) := by rw [← hk]; exact HS.out.cblk.cell 0
  have HK := Lib.hid hk
  clear hP hc hb0 hk
  go_enter Tryz.func31, Tryz.ntmps31
  go_upto_region 1 with (fail)
  rw [← hW0]
  clear hW0
  have c7 := HS.out.cblk.cell 7
  unfold cdC at c7
  simp only [List.getElem?_toArray, List.getElem?_cons_zero, List.getElem?_cons_succ] at c7
  obtain ⟨nm, hnm⟩ : ∃ q, q = c.name := ⟨_, rfl⟩
  rw [← hnm] at c7
  have HNM := Lib.hid hnm
  clear hnm
  go_wp2_with fail
  refine (str_any nm W0).mono ?_
  rintro e w1 ⟨rfl, hb⟩
  have HSn := Lib.hid (HS.out.ext hb)
  clear hb HS
  have HS := HSn
  clear HSn
  clear c0 c7
  obtain ⟨gd, hgd⟩ : ∃ gd, gd = w1.heap.size := ⟨_, rfl⟩
  obtain ⟨w2, hw2⟩ : ∃ w2, w2 = w1.alloc (.cells ([(kUri, strD nm)].flatMap ptC).toArray 74) := ⟨_, rfl⟩
  have hb : Below w1.heap.size w1 w2 := by rw [hw2]; exact below_a1 _ _
  have HPgd : Hid (PtsAt w2 (fun g => P g ∧ g ≠ w.heap.size + 1) (some ⟨gd, 0, none⟩) [(kUri, strD nm)]) := Lib.hid ⟨by rw [hw2, hgd]; exact row_blk (Blk.new rfl) (flat_length ptC 7 ptC_len _), fun p hp => by
    simp only [List.mem_cons, List.mem_nil_iff, or_false] at hp
    rcases hp with rfl
    exact .leaf⟩
  have HOgd : Hid (Own w2 (w.heap.size + 2) 74 7 (some ⟨gd, 0, none⟩) [(kUri, strD nm)].length [(kUri, strD nm)].length ([(kUri, strD nm)].flatMap ptC)) := Lib.hid (by have := HS.out.sz; rw [hw2, hgd]; exact own_blk (cs := ([(kUri, strD nm)].flatMap ptC).toArray) (Blk.new rfl) (by omega) (by rw [List.size_toArray]; exact flat_length ptC 7 ptC_len _) (by simp [maxLen]))
  have HSn := Lib.hid (HS.out.ext hb)
  clear hb HS
  have HS := HSn
  clear HSn
  simp only [List.flatMap_cons, List.flatMap_nil] at hw2
  try simp only [ptC_str] at hw2
  try simp only [ptC_num] at hw2
  try simp only [ptC_of] at hw2
  try simp only [List.cons_append, List.nil_append] at hw2
  simp only [List.append_nil, kUri] at hw2
  go_upto_region 2 with (fail)
  rw [← hw2, ← hgd]
  clear hw2 hgd
  have c0 : w2.cell? ⟨w.heap.size, 0, none⟩ = some (.int .i64 7) := by rw [← HK.out]; exact HS.out.cblk.cell 0
  go_upto_region 21 with (fail)
  have c11 := HS.out.cblk.cell 11
  have c12 := HS.out.cblk.cell 12
  unfold cdC at c11 c12
  simp only [List.getElem?_toArray, List.getElem?_cons_zero, List.getElem?_cons_succ] at c11 c12
  go_wp2_with fail
  refine (at_any (fun g => P g ∧ g ≠ w.heap.size + 1) c.pl c.pu w2 (HPP.out _ HS.out.sz)).mono ?_
  rintro e w3 ⟨dA, rfl, hvA, hdA, hb⟩
  have HVA := Lib.hid hvA
  have HDA := Lib.hid hdA
  clear hvA hdA c11 c12
  have HSn := Lib.hid (HS.out.ext hb)
  have HPgdn := Lib.hid (HPgd.out.ext hb)
  clear HPgd
  have HPgd := HPgdn
  clear HPgdn
  clear hb HS
  have HS := HSn
  clear HSn
  obtain ⟨gm, hgm⟩ : ∃ gm, gm = w3.heap.size := ⟨_, rfl⟩
  obtain ⟨w4, hw4⟩ : ∃ w4, w4 = w3.alloc (.cells ([(kPosition, dA)].flatMap ptC).toArray 74) := ⟨_, rfl⟩
  have hb : Below w3.heap.size w3 w4 := by rw [hw4]; exact below_a1 _ _
  have HPgm : Hid (PtsAt w4 (fun g => P g ∧ g ≠ w.heap.size + 1) (some ⟨gm, 0, none⟩) [(kPosition, dA)]) := Lib.hid ⟨by rw [hw4, hgm]; exact row_blk (Blk.new rfl) (flat_length ptC 7 ptC_len _), fun p hp => by
    simp only [List.mem_cons, List.mem_nil_iff, or_false] at hp
    rcases hp with rfl
    exact HDA.out.ext hb⟩
  have HOgm : Hid (Own w4 (w.heap.size + 2) 74 7 (some ⟨gm, 0, none⟩) [(kPosition, dA)].length [(kPosition, dA)].length ([(kPosition, dA)].flatMap ptC)) := Lib.hid (by have := HS.out.sz; rw [hw4, hgm]; exact own_blk (cs := ([(kPosition, dA)].flatMap ptC).toArray) (Blk.new rfl) (by omega) (by rw [List.size_toArray]; exact flat_length ptC 7 ptC_len _) (by simp [maxLen]))
  have HSn := Lib.hid (HS.out.ext hb)
  have HPgdn := Lib.hid (HPgd.out.ext hb)
  clear HPgd
  have HPgd := HPgdn
  clear HPgdn
  clear hb HS
  have HS := HSn
  clear HSn
  simp only [List.flatMap_cons, List.flatMap_nil] at hw4
  try simp only [ptC_str] at hw4
  try simp only [ptC_num] at hw4
  try simp only [ptC_of] at hw4
  try simp only [List.cons_append, List.nil_append] at hw4
  simp only [List.append_nil, kPosition] at hw4
  go_upto_region 22 with (fail)
  rw [← hw4, ← hgm]
  clear hw4 hgm
  go_wp2_with fail
  have hR := record_any (fun g => P g ∧ g ≠ w.heap.size + 1) (some ⟨gd, 0, none⟩) 1 [(kUri, strD nm)] w4 (HPP.out _ HS.out.sz) HPgd.out (by simp)
  simp only [List.length_cons, List.length_nil, Nat.zero_add, Nat.reduceAdd] at hR
  refine hR.mono ?_
  clear hR
  rintro e wr ⟨d1, rfl, hvd1, hdd1, hb⟩
  have HVd1 := Lib.hid hvd1
  have HDd1 := Lib.hid hdd1
  clear hvd1 hdd1
  have HSn := Lib.hid (HS.out.ext hb)
  have HPgmn := Lib.hid (HPgm.out.ext hb)
  clear HPgm
  have HPgm := HPgmn
  clear HPgmn
  clear hb HS
  have HS := HSn
  clear HSn
  go_wp2_with (at_builtin; refine wpList_append_Own rfl _ _ 75 rfl (w.heap.size + 2) 74 _ 7 104 Tryz.underlying75 Tryz.infoPart rfl (by decide) _ 1 1 [.string ⟨kDoc.toArray⟩, .int .i64 d1.sort, .bool d1.on, .int .i64 d1.n, .string ⟨d1.text.toArray⟩, .slice d1.a d1.list.length d1.c, .slice d1.ka d1.keys.length d1.kc] rfl (by exact own_blk (cs := #[.string ⟨kDoc.toArray⟩, .int .i64 d1.sort, .bool d1.on, .int .i64 d1.n, .string ⟨d1.text.toArray⟩, .slice d1.a d1.list.length d1.c, .slice d1.ka d1.keys.length d1.kc]) (Blk.new rfl) HS.out.sz rfl (by simp [maxLen])) (some ⟨gm, 0, none⟩) 1 1 ([(kPosition, dA)].flatMap ptC) rfl (HPgm.out.row.ext (below_a1 _ _)) ptC_one (by simp [maxLen]) (by simp) (by have := HS.out.sz; simp; omega) ?_; intro a5 c5 w5 ho5 hg5 hb5)
  have hb : Below wr.heap.size wr w5 := (below_a1 wr _).grown hg5 (by simp) (fun k hk => by simp [rowOf, blockOf] at hk; omega)
  have HR5 : Hid (Row w5 7 a5 ((kDoc, d1) :: [(kPosition, dA)]).length (((kDoc, d1) :: [(kPosition, dA)]).flatMap ptC)) := Lib.hid (by rw [List.flatMap_cons, ptC_of]; exact ho5.row)
  clear ho5 hg5 hb5
  have HSn := Lib.hid (HS.out.ext hb)
  have HDd1n := Lib.hid (HDd1.out.ext hb)
  clear HDd1
  have HDd1 := HDd1n
  clear HDd1n
  have HPgmn := Lib.hid (HPgm.out.ext hb)
  clear HPgm
  have HPgm := HPgmn
  clear HPgmn
  clear hb HS
  have HS := HSn
  clear HSn
  have HP5 : Hid (PtsAt w5 (fun g => P g ∧ g ≠ w.heap.size + 1) a5 ((kDoc, d1) :: [(kPosition, dA)])) := Lib.hid ⟨HR5.out, fun p hp => by
    rcases List.mem_cons.1 hp with rfl | hp
    · exact HDd1.out
    · exact HPgm.out.vals p hp⟩
  try simp only [Nat.reduceAdd]
  have hR := record_any (fun g => P g ∧ g ≠ w.heap.size + 1) a5 c5 ((kDoc, d1) :: [(kPosition, dA)]) w5 (HPP.out _ HS.out.sz) HP5.out (by simp)
  simp only [List.length_cons, List.length_nil, Nat.zero_add, Nat.reduceAdd] at hR
  refine hR.mono ?_
  clear hR
  rintro e wy ⟨d2, rfl, hvd2, hdd2, hb⟩
  have HVd2 := Lib.hid hvd2
  have HDd2 := Lib.hid hdd2
  clear hvd2 hdd2
  have HSn := Lib.hid (HS.out.ext hb)
  clear hb HS
  have HS := HSn
  clear HSn
  have f0 := HS.out.rblk.free 0
  have f1 := HS.out.rblk.free 1
  have f2 := HS.out.rblk.free 2
  have f3 := HS.out.rblk.free 3
  have f4 := HS.out.rblk.free 4
  have f5 := HS.out.rblk.free 5
  obtain ⟨z0, z1, z2, z3, z4, z5⟩ := HS.out.rblk.sixT
  go_wp2
  refine params_end (g := w.heap.size + 1) rfl (store6 HS.out.rblk) ?_
  refine docS (P := P) (o := 0) ?_ HDd2.out (fun g h => ⟨h.2, h.1⟩) HS.out.below (by omega)
  rw [HVd2.out, paramsW_7 _ (by show c.kind.toNat = 7; rw [HK.out]; rfl)]
  show recW [(kDoc, d1.v), (kPosition, dA.v)] = _
  rw [HVd1.out, HVA.out, HNM.out]
  rfl
set_option maxHeartbeats 4000000 in
set_option maxRecDepth 20000 in
theorem params_4 (P : Nat → Prop) (c : CD) (w : World) (hP : ∀ g, w.heap.size ≤ g → P g) (hk : c.kind = 4) (hc : ValAt w P c.other) : Calls Tryz.prog 31 #[.agg (cdC c)] w (DocP w P (paramsW c.k)) := by
  obtain ⟨W0, hW0⟩ : ∃ W0, W0 = (w.alloc (.cells (cdC c) 43)).alloc (.cells #[.int .i64 0, .bool false, .int .i64 0, .string { data := #[] }, .slice none 0 0, .slice none 0 0] 36) := ⟨_, rfl⟩
  have hb0 : Below w.heap.size w W0 := by rw [hW0]; exact (below_a1 w _).alloc (by simp) _
  have HS : Hid (PaS w c W0) := Lib.hid ⟨hb0, by rw [hW0]; exact (Blk.new rfl).alloc _, by rw [hW0]; exact Blk.new (by simp)⟩
  have HOV : Hid (ValAt w (fun g => P g ∧ g ≠ w.heap.size + 1) c.other) := Lib.hid (hc.mono fun g h1 h2 => ⟨h1, by omega⟩)
  have HP := Lib.hid hP
  have HPP : Hid (∀ W : World, w.heap.size + 2 ≤ W.heap.size → ∀ g, W.heap.size ≤ g → (P g ∧ g ≠ w.heap.size + 1)) := Lib.hid fun W h g hg => ⟨hP g (by omega), by omega⟩
  have c0 : W0.cell? ⟨w.heap.size, 0, none⟩ = some (.int .i64 4) := by rw [← hk]; exact HS.out.cblk.cell 0
  have HK := Lib.hid hk
  clear hP hc hb0 hk
  go_enter Tryz.func31, Tryz.ntmps31
  go_upto_region 1 with (fail)
  rw [← hW0]
  clear hW0
  have c7 := HS.out.cblk.cell 7
  unfold cdC at c7
  simp only [List.getElem?_toArray, List.getElem?_cons_zero, List.getElem?_cons_succ] at c7
  obtain ⟨nm, hnm⟩ : ∃ q, q = c.name := ⟨_, rfl⟩
  rw [← hnm] at c7
  have HNM := Lib.hid hnm
  clear hnm
  go_wp2_with fail
  refine (str_any nm W0).mono ?_
  rintro e w1 ⟨rfl, hb⟩
  have HSn := Lib.hid (HS.out.ext hb)
  clear hb HS
  have HS := HSn
  clear HSn
  clear c0 c7
  obtain ⟨gd, hgd⟩ : ∃ gd, gd = w1.heap.size := ⟨_, rfl⟩
  obtain ⟨w2, hw2⟩ : ∃ w2, w2 = w1.alloc (.cells ([(kUri, strD nm)].flatMap ptC).toArray 74) := ⟨_, rfl⟩
  have hb : Below w1.heap.size w1 w2 := by rw [hw2]; exact below_a1 _ _
  have HPgd : Hid (PtsAt w2 (fun g => P g ∧ g ≠ w.heap.size + 1) (some ⟨gd, 0, none⟩) [(kUri, strD nm)]) := Lib.hid ⟨by rw [hw2, hgd]; exact row_blk (Blk.new rfl) (flat_length ptC 7 ptC_len _), fun p hp => by
    simp only [List.mem_cons, List.mem_nil_iff, or_false] at hp
    rcases hp with rfl
    exact .leaf⟩
  have HOgd : Hid (Own w2 (w.heap.size + 2) 74 7 (some ⟨gd, 0, none⟩) [(kUri, strD nm)].length [(kUri, strD nm)].length ([(kUri, strD nm)].flatMap ptC)) := Lib.hid (by have := HS.out.sz; rw [hw2, hgd]; exact own_blk (cs := ([(kUri, strD nm)].flatMap ptC).toArray) (Blk.new rfl) (by omega) (by rw [List.size_toArray]; exact flat_length ptC 7 ptC_len _) (by simp [maxLen]))
  have HSn := Lib.hid (HS.out.ext hb)
  clear hb HS
  have HS := HSn
  clear HSn
  simp only [List.flatMap_cons, List.flatMap_nil] at hw2
  try simp only [ptC_str] at hw2
  try simp only [ptC_num] at hw2
  try simp only [ptC_of] at hw2
  try simp only [List.cons_append, List.nil_append] at hw2
  simp only [List.append_nil, kUri] at hw2
  go_upto_region 2 with (fail)
  rw [← hw2, ← hgd]
  clear hw2 hgd
  have c0 : w2.cell? ⟨w.heap.size, 0, none⟩ = some (.int .i64 4) := by rw [← HK.out]; exact HS.out.cblk.cell 0
  obtain ⟨ver, hver⟩ : ∃ q, q = c.version := ⟨_, rfl⟩
  obtain ⟨txt, htxt⟩ : ∃ q, q = c.text := ⟨_, rfl⟩
  have HVER := Lib.hid hver
  have HTXT := Lib.hid htxt
  have HKS : Hid (∀ W, PaS w c W → (fun w' => w'.cell? ⟨w.heap.size, 8, none⟩ = some (.int .i64 ver) ∧ w'.cell? ⟨w.heap.size, 9, none⟩ = some (.string ⟨txt.toArray⟩)) W) := Lib.hid fun W h => ⟨by rw [hver]; exact h.cblk.cell 8, by rw [htxt]; exact h.cblk.cell 9⟩
  clear hver htxt
  go_upto_region 7 with (fail)
  clear c0
  have HSd := Lib.hid (HS.out.ext (Below.refl w2.heap.size w2).drew)
  obtain ⟨Wd, hWd⟩ : ∃ Wd, Wd = w2.drew := ⟨_, rfl⟩
  have hb : Below w2.heap.size w2 Wd := by rw [hWd]; exact (Below.refl _ _).drew
  have HSn := Lib.hid (HS.out.ext hb)
  have HPgdn := Lib.hid (HPgd.out.ext hb)
  clear HPgd
  have HPgd := HPgdn
  clear HPgdn
  have HOgdn := Lib.hid (HOgd.out.ext hb)
  clear HOgd
  have HOgd := HOgdn
  clear HOgdn
  clear hb HS
  have HS := HSn
  clear HSn
  refine wp_region_held_drew (S := (fun w' => w'.cell? ⟨w.heap.size, 8, none⟩ = some (.int .i64 ver) ∧ w'.cell? ⟨w.heap.size, 9, none⟩ = some (.string ⟨txt.toArray⟩))) (by kernel_rfl) ?_ (fun hHeld => ?_)
  · exact HKS.out _ HSd.out
  rw [← hWd] at hHeld ⊢
  clear hWd HSd
  refine wpAnyH_take (i := 0) (oi := ⟨some 25, _, _, _, _, _⟩) (v := ?_) rfl (by kernel_rfl) (by kernel_rfl) (by kernel_rfl) (fun _ _ _ h => h) (Or.inl ⟨by rfl, ?_⟩) (by assumption) ?_; rotate_left; focus (intro w hSw; (try dsimp only at hSw); first | (go_simp; done) | (go_simp; with_reducible rfl))
  try simp only [Act.put]
  try simp only [List.setIfInBounds_toArray]
  try simp only [List.set_cons_succ, List.set_cons_zero]
  refine wpAnyH_take (i := 1) (oi := ⟨some 26, _, _, _, _, _⟩) (v := ?_) rfl (by kernel_rfl) (by kernel_rfl) (by kernel_rfl) (fun _ _ _ h => h) (Or.inl ⟨by rfl, ?_⟩) (by assumption) ?_; rotate_left; focus (intro w hSw; (try dsimp only at hSw); first | (go_simp; done) | (go_simp; with_reducible rfl))
  try simp only [Act.put]
  try simp only [List.setIfInBounds_toArray]
  try simp only [List.set_cons_succ, List.set_cons_zero]
  refine wpAnyH_take (i := 2) (oi := ⟨some 27, _, _, _, _, _⟩) (v := ?_) rfl (by kernel_rfl) (by kernel_rfl) (by kernel_rfl) (fun _ _ _ h => h) (Or.inl ⟨by rfl, ?_⟩) (by assumption) ?_; rotate_left; focus (intro w hSw; (try dsimp only at hSw); obtain ⟨q8, q9⟩ := hSw; first | (go_simp; done) | (go_simp; with_reducible rfl))
  try simp only [Act.put]
  try simp only [List.setIfInBounds_toArray]
  try simp only [List.set_cons_succ, List.set_cons_zero]
  refine wpAnyH_take (i := 5) (oi := ⟨some 30, _, _, _, _, _⟩) (v := ?_) rfl (by kernel_rfl) (by kernel_rfl) (by kernel_rfl) (fun _ _ _ h => h) (Or.inl ⟨by rfl, ?_⟩) (by assumption) ?_; rotate_left; focus (intro w hSw; (try dsimp only at hSw); first | (go_simp; done) | (go_simp; with_reducible rfl))
  try simp only [Act.put]
  try simp only [List.setIfInBounds_toArray]
  try simp only [List.set_cons_succ, List.set_cons_zero]
  refine wpAnyH_take (i := 6) (oi := ⟨some 31, _, _, _, _, _⟩) (v := ?_) rfl (by kernel_rfl) (by kernel_rfl) (by kernel_rfl) (fun _ _ _ h => h) (Or.inl ⟨by rfl, ?_⟩) (by assumption) ?_; rotate_left; focus (intro w hSw; (try dsimp only at hSw); obtain ⟨q8, q9⟩ := hSw; first | (go_simp; done) | (go_simp; with_reducible rfl))
  try simp only [Act.put]
  try simp only [List.setIfInBounds_toArray]
  try simp only [List.set_cons_succ, List.set_cons_zero]
  refine wpAnyH_ready (rs := [3]) (by kernel_rfl) (by simp) ?_
  refine AllReadyH.cons (i := 3) (o := ⟨some 28, _, _, _, _, _⟩) rfl (fun K hK => ?_) ?_
  · go_simp
    refine (num_any ver _).mono ?_
    rintro e ws ⟨rfl, hb⟩
    have HSn := Lib.hid (HS.out.ext hb)
    have HPgdn := Lib.hid (HPgd.out.ext hb)
    clear HPgd
    have HPgd := HPgdn
    clear HPgdn
    have HOgdn := Lib.hid (HOgd.out.ext hb)
    clear HOgd
    have HOgd := HOgdn
    clear HOgdn
    clear hb HS
    have HS := HSn
    clear HSn
    refine hK.out _ _ ?_ (fun hHeld => ?_)
    · exact HKS.out _ HS.out
    try simp only [Act.put]
    try simp only [List.setIfInBounds_toArray]
    try simp only [List.set_cons_succ, List.set_cons_zero]
    refine wpAnyH_take (i := 4) (oi := ⟨some 29, _, _, _, _, _⟩) (v := ?_) rfl (by kernel_rfl) (by kernel_rfl) (by kernel_rfl) (fun _ _ _ h => h) (Or.inl ⟨by rfl, ?_⟩) (by assumption) ?_; rotate_left; focus (intro w hSw; (try dsimp only at hSw); first | (go_simp; done) | (go_simp; with_reducible rfl))
    try simp only [Act.put]
    try simp only [List.setIfInBounds_toArray]
    try simp only [List.set_cons_succ, List.set_cons_zero]
    refine wpAnyH_ready (rs := [7]) (by kernel_rfl) (by simp) ?_
    refine AllReadyH.cons (i := 7) (o := ⟨some 32, _, _, _, _, _⟩) rfl (fun K hK => ?_) ?_
    · go_simp
      refine (str_any txt _).mono ?_
      rintro e wt ⟨rfl, hb⟩
      have HSn := Lib.hid (HS.out.ext hb)
      have HPgdn := Lib.hid (HPgd.out.ext hb)
      clear HPgd
      have HPgd := HPgdn
      clear HPgdn
      have HOgdn := Lib.hid (HOgd.out.ext hb)
      clear HOgd
      have HOgd := HOgdn
      clear HOgdn
      clear hb HS
      have HS := HSn
      clear HSn
      refine hK.out _ _ ?_ (fun hHeld => ?_)
      · exact HKS.out _ HS.out
      try simp only [Act.put]
      try simp only [List.setIfInBounds_toArray]
      try simp only [List.set_cons_succ, List.set_cons_zero]
      refine wpAnyH_take (i := 8) (oi := ⟨some 33, _, _, _, _, _⟩) (v := ?_) rfl (by kernel_rfl) (by kernel_rfl) (by kernel_rfl) (fun _ _ _ h => h) (Or.inl ⟨by rfl, ?_⟩) (by assumption) ?_; rotate_left; focus (intro w hSw; (try dsimp only at hSw); first | (go_simp; done) | (go_simp; with_reducible rfl))
      try simp only [Act.put]
      try simp only [List.setIfInBounds_toArray]
      try simp only [List.set_cons_succ, List.set_cons_zero]
      refine wpAnyH_ready (rs := [9]) (by kernel_rfl) (by simp) ?_
      refine AllReadyH.cons (i := 9) (o := ⟨some 34, _, _, _, _, _⟩) rfl (fun K hK => ?_) ?_
      · obtain ⟨gv, hgv⟩ : ∃ gv, gv = wt.heap.size := ⟨_, rfl⟩
        obtain ⟨wv, hwv⟩ : ∃ wv, wv = wt.alloc (.cells ([(kVersion, numD ver), (kText, strD txt)].flatMap ptC).toArray 74) := ⟨_, rfl⟩
        have hb : Below wt.heap.size wt wv := by rw [hwv]; exact below_a1 _ _
        have HPgv : Hid (PtsAt wv (fun g => P g ∧ g ≠ w.heap.size + 1) (some ⟨gv, 0, none⟩) [(kVersion, numD ver), (kText, strD txt)]) := Lib.hid ⟨by rw [hwv, hgv]; exact row_blk (Blk.new rfl) (flat_length ptC 7 ptC_len _), fun p hp => by
          simp only [List.mem_cons, List.mem_nil_iff, or_false] at hp
          rcases hp with rfl | rfl
          · exact .leaf
          · exact .leaf⟩
        have HOgv : Hid (Own wv (w.heap.size + 2) 74 7 (some ⟨gv, 0, none⟩) [(kVersion, numD ver), (kText, strD txt)].length [(kVersion, numD ver), (kText, strD txt)].length ([(kVersion, numD ver), (kText, strD txt)].flatMap ptC)) := Lib.hid (by have := HS.out.sz; rw [hwv, hgv]; exact own_blk (cs := ([(kVersion, numD ver), (kText, strD txt)].flatMap ptC).toArray) (Blk.new rfl) (by omega) (by rw [List.size_toArray]; exact flat_length ptC 7 ptC_len _) (by simp [maxLen]))
        have HSn := Lib.hid (HS.out.ext hb)
        have HPgdn := Lib.hid (HPgd.out.ext hb)
        clear HPgd
        have HPgd := HPgdn
        clear HPgdn
        have HOgdn := Lib.hid (HOgd.out.ext hb)
        clear HOgd
        have HOgd := HOgdn
        clear HOgdn
        clear hb HS
        have HS := HSn
        clear HSn
        simp only [List.flatMap_cons, List.flatMap_nil] at hwv
        try simp only [ptC_str] at hwv
        try simp only [ptC_num] at hwv
        try simp only [ptC_of] at hwv
        try simp only [List.cons_append, List.nil_append] at hwv
        simp only [List.append_nil, kVersion, kText] at hwv
        go_simp
        rw [← hwv, ← hgv]
        clear hwv hgv
        refine hK.out _ _ ?_ (fun hHeld => ?_)
        · exact HKS.out _ HS.out
        try simp only [Act.put]
        try simp only [List.setIfInBounds_toArray]
        try simp only [List.set_cons_succ, List.set_cons_zero]
        refine wpAnyH_ready (rs := [10]) (by kernel_rfl) (by simp) ?_
        refine AllReadyH.cons (i := 10) (o := ⟨some 35, _, _, _, _, _⟩) rfl (fun K hK => ?_) ?_
        · refine step_append_Own (act := ⟨_, []⟩) rfl (.tmp 25) (.tmp 34) 75 rfl (w.heap.size + 2) 74 _ 7 104 Tryz.underlying75 Tryz.infoPart rfl (by decide) (some ⟨gd, 0, none⟩) 1 1 _ (by simp [go_sem]) HOgd.out (some ⟨gv, 0, none⟩) 2 2 _ (by simp [go_sem]) HPgv.out.row ptC_one (by simp [maxLen]) (by simp) HS.out.sz ?_
          intro a7 c7 w7 ho7 hg7 hb7
          simp only [Act.put, List.setIfInBounds_toArray, List.set_cons_succ, List.set_cons_zero]
          have HSn := Lib.hid (HS.out.grow hg7 (HOgd.out.rowBase (Nat.le_refl _)))
          have HP7 : Hid (PtsAt w7 (fun g => P g ∧ g ≠ w.heap.size + 1) a7 [(kUri, strD nm), (kVersion, numD ver), (kText, strD txt)]) := Lib.hid ⟨ho7.row, fun p hp => by
            simp only [List.mem_cons, List.mem_nil_iff, or_false] at hp
            rcases hp with rfl | rfl | rfl
            · exact .leaf
            · exact .leaf
            · exact .leaf⟩
          clear HS ho7 hg7 hb7
          have HS := HSn
          clear HSn
          refine hK.out _ _ ?_ (fun hHeld => ?_)
          · exact HKS.out _ HS.out
          try simp only [Act.put]
          try simp only [List.setIfInBounds_toArray]
          try simp only [List.set_cons_succ, List.set_cons_zero]
          refine wpAnyH_take (i := 11) (oi := ⟨some 3, _, _, _, _, _⟩) (v := ?_) rfl (by kernel_rfl) (by kernel_rfl) (by kernel_rfl) (fun _ _ _ h => h) (Or.inl ⟨by rfl, ?_⟩) (by assumption) ?_; rotate_left; focus (intro w hSw; (try dsimp only at hSw); first | (go_simp; done) | (go_simp; with_reducible rfl))
          try simp only [Act.put]
          try simp only [List.setIfInBounds_toArray]
          try simp only [List.set_cons_succ, List.set_cons_zero]
          refine wpAnyH_done (by kernel_rfl) ?_ _
          clear hHeld
          go_upto_region 22 with (fail)
          go_wp2_with fail
          have hR := record_any (fun g => P g ∧ g ≠ w.heap.size + 1) a7 c7 [(kUri, strD nm), (kVersion, numD ver), (kText, strD txt)] w7 (HPP.out _ HS.out.sz) HP7.out (by simp)
          simp only [List.length_cons, List.length_nil, Nat.zero_add, Nat.reduceAdd] at hR
          refine hR.mono ?_
          clear hR
          rintro e wr ⟨d1, rfl, hvd1, hdd1, hb⟩
          have HVd1 := Lib.hid hvd1
          have HDd1 := Lib.hid hdd1
          clear hvd1 hdd1
          have HSn := Lib.hid (HS.out.ext hb)
          clear hb HS
          have HS := HSn
          clear HSn
          go_wp2_with (at_builtin; refine wpList_append_Own rfl _ _ 75 rfl (w.heap.size + 2) 74 _ 7 104 Tryz.underlying75 Tryz.infoPart rfl (by decide) _ 1 1 [.string ⟨kDoc.toArray⟩, .int .i64 d1.sort, .bool d1.on, .int .i64 d1.n, .string ⟨d1.text.toArray⟩, .slice d1.a d1.list.length d1.c, .slice d1.ka d1.keys.length d1.kc] rfl (by exact own_blk (cs := #[.string ⟨kDoc.toArray⟩, .int .i64 d1.sort, .bool d1.on, .int .i64 d1.n, .string ⟨d1.text.toArray⟩, .slice d1.a d1.list.length d1.c, .slice d1.ka d1.keys.length d1.kc]) (Blk.new rfl) HS.out.sz rfl (by simp [maxLen])) none 0 0 (([] : List Pt).flatMap ptC) rfl (Row.nil _ _ _) ptC_one (by simp [maxLen]) (by simp) (by have := HS.out.sz; simp; omega) ?_; intro a5 c5 w5 ho5 hg5 hb5)
          have hb : Below wr.heap.size wr w5 := (below_a1 wr _).grown hg5 (by simp) (fun k hk => by simp [rowOf, blockOf] at hk; omega)
          have HR5 : Hid (Row w5 7 a5 ((kDoc, d1) :: ([] : List Pt)).length (((kDoc, d1) :: ([] : List Pt)).flatMap ptC)) := Lib.hid (by rw [List.flatMap_cons, ptC_of]; exact ho5.row)
          clear ho5 hg5 hb5
          have HSn := Lib.hid (HS.out.ext hb)
          have HDd1n := Lib.hid (HDd1.out.ext hb)
          clear HDd1
          have HDd1 := HDd1n
          clear HDd1n
          clear hb HS
          have HS := HSn
          clear HSn
          have HP5 : Hid (PtsAt w5 (fun g => P g ∧ g ≠ w.heap.size + 1) a5 ((kDoc, d1) :: ([] : List Pt))) := Lib.hid ⟨HR5.out, fun p hp => by
            rcases List.mem_cons.1 hp with rfl | hp
            · exact HDd1.out
            · cases hp⟩
          try simp only [Nat.reduceAdd]
          have hR := record_any (fun g => P g ∧ g ≠ w.heap.size + 1) a5 c5 ((kDoc, d1) :: ([] : List Pt)) w5 (HPP.out _ HS.out.sz) HP5.out (by simp)
          simp only [List.length_cons, List.length_nil, Nat.zero_add, Nat.reduceAdd] at hR
          refine hR.mono ?_
          clear hR
          rintro e wy ⟨d2, rfl, hvd2, hdd2, hb⟩
          have HVd2 := Lib.hid hvd2
          have HDd2 := Lib.hid hdd2
          clear hvd2 hdd2
          have HSn := Lib.hid (HS.out.ext hb)
          clear hb HS
          have HS := HSn
          clear HSn
          have f0 := HS.out.rblk.free 0
          have f1 := HS.out.rblk.free 1
          have f2 := HS.out.rblk.free 2
          have f3 := HS.out.rblk.free 3
          have f4 := HS.out.rblk.free 4
          have f5 := HS.out.rblk.free 5
          obtain ⟨z0, z1, z2, z3, z4, z5⟩ := HS.out.rblk.sixT
          go_wp2
          refine params_end (g := w.heap.size + 1) rfl (store6 HS.out.rblk) ?_
          refine docS (P := P) (o := 0) ?_ HDd2.out (fun g h => ⟨h.2, h.1⟩) HS.out.below (by omega)
          rw [HVd2.out, paramsW_4 _ (by show c.kind.toNat = 4; rw [HK.out]; rfl)]
          show recW [(kDoc, d1.v)] = _
          rw [HVd1.out, HNM.out, HVER.out, HTXT.out]
          rfl
        exact AllReadyH.nil
      exact AllReadyH.nil
    exact AllReadyH.nil
  exact AllReadyH.nil
end Go.Proofs.YthnbeebilomchaaGreatDoor

namespace Go.Proofs.YthnbeebilomchaaGreatDoor
open Go Go.RowKit

/-- all that was there is as it was -/
def Sinc (A W : World) : Prop := Below A.heap.size A W
theorem Sinc.ext {A W W' : World} (h : Sinc A W) (hb : Below W.heap.size W W') : Sinc A W' := Below.trans h (hb.mono h.size)
theorem own_lt2 {W : World} {base sz n c : Nat} {T : TypeId} {a : Option Addr} {xs : List Value} (h : Own W base T sz a n c xs) {g : Nat} (hg : W.heap.size ≤ g) : rowOf a c ≠ some g := fun e => own_new h hg e.symm
/-- between rounds -/
structure LpS (w : World) (P : Nat → Prop) (c : CD) (gl : Nat) (ad : Option Addr) (cd : Nat) (D : List Pt) (la : Option Addr) (lc : Nat) (acc : List VD) (W : World) : Prop where
  pas : PaS w c W
  od : Own W (w.heap.size + 2) 74 7 ad D.length cd (D.flatMap ptC)
  lb : Blk W gl #[.int .i64 4, .bool false, .int .i64 0, .string { data := #[] }, .slice la acc.length lc, .slice none 0 0] 36
  lo : Own W (w.heap.size + 2) 36 6 la acc.length lc (acc.flatMap VD.cells)
  lne : rowOf la lc ≠ some gl
  glb : w.heap.size + 2 ≤ gl
  vals : ∀ x ∈ acc, ValAt W (fun g => (P g ∧ g ≠ w.heap.size + 1) ∧ g ≠ gl ∧ rowOf la lc ≠ some g) x
section
variable {w : World} {P : Nat → Prop} {c : CD} {gl : Nat} {ad : Option Addr} {cd : Nat} {D : List Pt} {la : Option Addr} {lc : Nat} {acc : List VD} {W W' : World}
theorem LpS.ext (h : LpS w P c gl ad cd D la lc acc W) (hb : Below W.heap.size W W') : LpS w P c gl ad cd D la lc acc W' :=
  ⟨h.pas.ext hb, h.od.ext hb, h.lb.ext hb, h.lo.ext hb, h.lne, h.glb, fun x hx => (h.vals x hx).ext hb⟩
theorem LpS.px (h : LpS w P c gl ad cd D la lc acc W) (hP : ∀ g, w.heap.size ≤ g → P g) : ∀ g, W.heap.size ≤ g → (P g ∧ g ≠ w.heap.size + 1) ∧ g ≠ gl ∧ rowOf la lc ≠ some g := by
  intro g hg
  have h1 := h.pas.sz
  have h2 := h.lb.lt
  exact ⟨⟨hP g (by omega), by omega⟩, by omega, own_lt2 h.lo hg⟩
/-- the list has grown by one, and is stored -/
theorem LpS.more (h : LpS w P c gl ad cd D la lc acc W) {x : VD} (hx : ValAt W (fun g => (P g ∧ g ≠ w.heap.size + 1) ∧ g ≠ gl ∧ rowOf la lc ≠ some g) x) {a : Option Addr} {k : Nat} (ho : Own W' (w.heap.size + 2) 36 6 a (acc.length + 1) k (acc.flatMap VD.cells ++ x.cells)) (hg : W.grownBy W' (rowOf la lc))
    (hb : rowOf a k = rowOf la lc ∨ rowOf a k = some W.heap.size) : LpS w P c gl ad cd D a k (acc ++ [x]) (W'.setCell ⟨gl, 4, none⟩ (.slice a (acc.length + 1) k)) := by
  have hlo := h.lo.rowBase (Nat.le_refl _)
  have hgl := h.glb
  have hlt := h.lb.lt
  have hne : rowOf a k ≠ some gl := rowOf_apart h.lne hlt hb
  have hT : 36 ≠ 74 := by decide
  have hpas := h.pas.grow hg hlo
  have q0 : w.heap.size ≠ gl := by omega
  have q1 : w.heap.size + 1 ≠ gl := by omega
  have hv : ∀ y, ValAt W (fun g => (P g ∧ g ≠ w.heap.size + 1) ∧ g ≠ gl ∧ rowOf la lc ≠ some g) y → ValAt (W'.setCell ⟨gl, 4, none⟩ (.slice a (acc.length + 1) k)) (fun g => (P g ∧ g ≠ w.heap.size + 1) ∧ g ≠ gl ∧ rowOf a k ≠ some g) y := fun y hy =>
    ((hy.mono (q := fun g => ((P g ∧ g ≠ w.heap.size + 1) ∧ g ≠ gl ∧ rowOf la lc ≠ some g) ∧ g < W.heap.size) fun g h1 h2 => ⟨h1, h2⟩).congr fun g h1 _ => (Below.heap_setCell W' _ _ g h1.1.2.1).trans (hg.block g h1.2 (fun e => h1.1.2.2 e.symm))).mono fun g h1 _ => ⟨h1.1.1, h1.1.2.1, fun e => by
      rcases hb with hb | hb
      · rw [hb] at e; exact h1.1.2.2 e
      · rw [hb] at e; simp at e; omega⟩
  refine ⟨⟨hpas.below.setCell (p := ⟨gl, 4, none⟩) (by show w.heap.size ≤ gl; omega) _, hpas.cblk.other (p := ⟨gl, 4, none⟩) q0 _, hpas.rblk.other (p := ⟨gl, 4, none⟩) q1 _⟩, (h.od.keptType h.lo (Ne.symm hT) hg).setCell_row (p := ⟨gl, 4, none⟩) (fun e => (h.od.notBlk h.lb hT) e.symm) _, ?_, ?_, hne, h.glb, fun y hy => ?_⟩
  · rw [List.length_append]
    exact (h.lb.grown hg (fun e => h.lne e.symm)).set 4 _
  · rw [List.length_append, List.flatMap_append, List.flatMap_singleton]
    exact ho.setCell_row (p := ⟨gl, 4, none⟩) hne _
  · rcases List.mem_append.1 hy with hy | hy
    · exact hv y (h.vals y hy)
    · rw [List.mem_singleton] at hy; subst hy; exact hv y hx
end
set_option maxHeartbeats 4000000 in
set_option maxRecDepth 20000 in
theorem params_5 (P : Nat → Prop) (c : CD) (w : World) (hP : ∀ g, w.heap.size ≤ g → P g) (hk : c.kind = 5) (hc : ValAt w P c.other) (hrow : Row w 6 c.a c.changes.length (c.changes.flatMap E.cells)) (hn : c.changes.length ≤ 1048576) : Calls Tryz.prog 31 #[.agg (cdC c)] w (DocP w P (paramsW c.k)) := by
  obtain ⟨W0, hW0⟩ : ∃ W0, W0 = (w.alloc (.cells (cdC c) 43)).alloc (.cells #[.int .i64 0, .bool false, .int .i64 0, .string { data := #[] }, .slice none 0 0, .slice none 0 0] 36) := ⟨_, rfl⟩
  have hb0 : Below w.heap.size w W0 := by rw [hW0]; exact (below_a1 w _).alloc (by simp) _
  have HS : Hid (PaS w c W0) := Lib.hid ⟨hb0, by rw [hW0]; exact (Blk.new rfl).alloc _, by rw [hW0]; exact Blk.new (by simp)⟩
  have HOV : Hid (ValAt w (fun g => P g ∧ g ≠ w.heap.size + 1) c.other) := Lib.hid (hc.mono fun g h1 h2 => ⟨h1, by omega⟩)
  have HP := Lib.hid hP
  have HCR := Lib.hid hrow
  have HCL := Lib.hid hn
  clear hrow hn
  have HPP : Hid (∀ W : World, w.heap.size + 2 ≤ W.heap.size → ∀ g, W.heap.size ≤ g → (P g ∧ g ≠ w.heap.size + 1)) := Lib.hid fun W h g hg => ⟨hP g (by omega), by omega⟩
  have c0 : W0.cell? ⟨w.heap.size, 0, none⟩ = some (.int .i64 5) := by rw [← hk]; exact HS.out.cblk.cell 0
  have HK := Lib.hid hk
  clear hP hc hb0 hk
  go_enter Tryz.func31, Tryz.ntmps31
  go_upto_region 1 with (fail)
  rw [← hW0]
  clear hW0
  have c7 := HS.out.cblk.cell 7
  unfold cdC at c7
  simp only [List.getElem?_toArray, List.getElem?_cons_zero, List.getElem?_cons_succ] at c7
  obtain ⟨nm, hnm⟩ : ∃ q, q = c.name := ⟨_, rfl⟩
  rw [← hnm] at c7
  have HNM := Lib.hid hnm
  clear hnm
  go_wp2_with fail
  refine (str_any nm W0).mono ?_
  rintro e w1 ⟨rfl, hb⟩
  have HSn := Lib.hid (HS.out.ext hb)
  clear hb HS
  have HS := HSn
  clear HSn
  clear c0 c7
  obtain ⟨gd, hgd⟩ : ∃ gd, gd = w1.heap.size := ⟨_, rfl⟩
  obtain ⟨w2, hw2⟩ : ∃ w2, w2 = w1.alloc (.cells ([(kUri, strD nm)].flatMap ptC).toArray 74) := ⟨_, rfl⟩
  have hb : Below w1.heap.size w1 w2 := by rw [hw2]; exact below_a1 _ _
  have HPgd : Hid (PtsAt w2 (fun g => P g ∧ g ≠ w.heap.size + 1) (some ⟨gd, 0, none⟩) [(kUri, strD nm)]) := Lib.hid ⟨by rw [hw2, hgd]; exact row_blk (Blk.new rfl) (flat_length ptC 7 ptC_len _), fun p hp => by
    simp only [List.mem_cons, List.mem_nil_iff, or_false] at hp
    rcases hp with rfl
    exact .leaf⟩
  have HOgd : Hid (Own w2 (w.heap.size + 2) 74 7 (some ⟨gd, 0, none⟩) [(kUri, strD nm)].length [(kUri, strD nm)].length ([(kUri, strD nm)].flatMap ptC)) := Lib.hid (by have := HS.out.sz; rw [hw2, hgd]; exact own_blk (cs := ([(kUri, strD nm)].flatMap ptC).toArray) (Blk.new rfl) (by omega) (by rw [List.size_toArray]; exact flat_length ptC 7 ptC_len _) (by simp [maxLen]))
  have HSn := Lib.hid (HS.out.ext hb)
  clear hb HS
  have HS := HSn
  clear HSn
  simp only [List.flatMap_cons, List.flatMap_nil] at hw2
  try simp only [ptC_str] at hw2
  try simp only [ptC_num] at hw2
  try simp only [ptC_of] at hw2
  try simp only [List.cons_append, List.nil_append] at hw2
  simp only [List.append_nil, kUri] at hw2
  go_upto_region 2 with (fail)
  rw [← hw2, ← hgd]
  clear hw2 hgd
  have c0 : w2.cell? ⟨w.heap.size, 0, none⟩ = some (.int .i64 5) := by rw [← HK.out]; exact HS.out.cblk.cell 0
  obtain ⟨ver, hver⟩ : ∃ q, q = c.version := ⟨_, rfl⟩
  have HVER := Lib.hid hver
  have c8 : w2.cell? ⟨w.heap.size, 8, none⟩ = some (.int .i64 ver) := by rw [hver]; exact HS.out.cblk.cell 8
  clear hver
  go_upto_region 9 with (fail)
  clear c0
  go_wp2_with fail
  refine (num_any ver w2).mono ?_
  rintro e w3 ⟨rfl, hb⟩
  clear c8
  have HSn := Lib.hid (HS.out.ext hb)
  have HPgdn := Lib.hid (HPgd.out.ext hb)
  clear HPgd
  have HPgd := HPgdn
  clear HPgdn
  have HOgdn := Lib.hid (HOgd.out.ext hb)
  clear HOgd
  have HOgd := HOgdn
  clear HOgdn
  clear hb HS
  have HS := HSn
  clear HSn
  go_upto_region 10 with (at_builtin; refine wpList_append_Own rfl _ _ 75 rfl (w.heap.size + 2) 74 _ 7 104 Tryz.underlying75 Tryz.infoPart rfl (by decide) (some ⟨gd, 0, none⟩) 1 1 _ rfl (HOgd.out.alloc _) _ 1 1 [.string ⟨kVersion.toArray⟩, .int .i64 2, .bool false, .int .i64 ver, .string { data := #[] }, .slice none 0 0, .slice none 0 0] rfl (Row.new1 (by simp) rfl rfl) (by intro u hu; simp at hu; rcases hu with rfl | rfl | rfl | rfl | rfl | rfl | rfl <;> rfl) (by simp [maxLen]) (by simp) (by have := HS.out.sz; simp; omega) ?_; intro a7 c7 w4 ho7 hg7 hb7)
  have HSn := Lib.hid ((HS.out.ext (below_a1 _ _)).grow hg7 (HOgd.out.rowBase (Nat.le_refl _)))
  have HOD : Hid (Own w4 (w.heap.size + 2) 74 7 a7 2 c7 ([(kUri, strD nm), (kVersion, numD ver)].flatMap ptC)) := Lib.hid ho7
  clear HS ho7 hg7 hb7 HPgd HOgd
  have HS := HSn
  clear HSn
  obtain ⟨gl, hgl⟩ : ∃ gl, gl = w4.heap.size := ⟨_, rfl⟩
  obtain ⟨w5, hw5⟩ : ∃ w5, w5 = w4.alloc (.cells #[.int .i64 4, .bool false, .int .i64 0, .string { data := #[] }, .slice none 0 0, .slice none 0 0] 36) := ⟨_, rfl⟩
  have HL0 : Hid (LpS w P c gl a7 c7 [(kUri, strD nm), (kVersion, numD ver)] none 0 [] w5) := Lib.hid ⟨by rw [hw5]; exact HS.out.ext (below_a1 _ _), by rw [hw5]; exact HOD.out.ext (below_a1 _ _), by rw [hw5, hgl]; exact Blk.new rfl, Own.nil _ _ _ _, by simp [rowOf], by rw [hgl]; exact HS.out.sz, fun x hx => by cases hx⟩
  have hc10 : w5.cell? ⟨w.heap.size, 10, none⟩ = some (.slice c.a c.changes.length c.c) := HL0.out.pas.cblk.cell 10
  obtain ⟨ca, hca⟩ : ∃ q, q = c.a := ⟨_, rfl⟩
  obtain ⟨cn, hcn⟩ : ∃ q, q = c.changes.length := ⟨_, rfl⟩
  rw [← hca, ← hcn] at hc10
  rw [← hcn] at HCL
  rw [← hca] at HCR
  have HCN := Lib.hid hcn
  clear hca hcn HS HOD
  go_upto_region 11 with (fail)
  rw [← hgl, ← hw5]
  clear hw5 hgl
  go_wp2
  clear hc10
  go_loopw [49] (fun i wr => ∃ k : Nat, k ≤ cn ∧ i = .int .i64 k ∧ Hid (∃ la lc acc, acc.map VD.v = (c.changes.take k).map editW ∧ LpS w P c gl a7 c7 [(kUri, strD nm), (kVersion, numD ver)] la lc acc wr)) (fun i _ => cn - (intOf i).toNat)
  case atStart => exact ⟨0, Nat.zero_le _, rfl, Lib.hid ⟨none, 0, [], rfl, HL0.out⟩⟩
  case round =>
    obtain ⟨k, hk, rfl, hL⟩ := hrel
    obtain ⟨la, lc, acc, hac, hL⟩ := hL.out
    have HAC := Lib.hid hac
    have HL := Lib.hid hL
    clear hL hac HL0
    by_cases hlt : k < cn
    · obtain ⟨x, hx⟩ := get_some (l := c.changes) (i := k) (by rw [← HCN.out]; exact hlt)
      have HXE := Lib.hid hx
      have HAL : Hid (acc.length + 1 ≤ 1048577) := Lib.hid (by have := congrArg List.length HAC.out; rw [List.length_map, List.length_map, List.length_take] at this; have := HCL.out; omega)
      obtain ⟨b, off, rfl, q0, q1, q2, q3, q4, q5⟩ := edit_at (HCR.out.ext HL.out.pas.below) hx
      clear hx
      have hi0 : (0 : Int) ≤ (k : Int) := by omega
      have hi1 : (k : Int) < (cn : Int) := by omega
      have hcl0 := HCL.out
      obtain ⟨gx, hgx⟩ : ∃ gx, gx = wr.heap.size := ⟨_, rfl⟩
      obtain ⟨Wc, hWc⟩ : ∃ Wc, Wc = wr.alloc (.cells #[.int .i64 x.fl, .int .i64 x.fu, .int .i64 x.tl, .int .i64 x.tu, .string ⟨x.text.toArray⟩, .bool x.whole] 82) := ⟨_, rfl⟩
      have HXB : Hid (Blk Wc gx #[.int .i64 x.fl, .int .i64 x.fu, .int .i64 x.tl, .int .i64 x.tu, .string ⟨x.text.toArray⟩, .bool x.whole] 82) := Lib.hid (by rw [hWc, hgx]; exact Blk.new rfl)
      have HLn := Lib.hid (HL.out.ext (show Below wr.heap.size wr Wc by rw [hWc]; exact below_a1 _ _))
      clear HL
      have HL := HLn
      clear HLn
      go_upto_region 14 with (fail)
      rw [← hgx, ← hWc]
      clear hWc hgx q0 q1 q2 q3 q4 q5 hcl0 hi0 hi1
      obtain ⟨e0, e1, e2, e3, e4, e5⟩ := HXB.out.sixT
      go_wp2_with fail
      refine (str_any x.text Wc).mono ?_
      rintro e Wn ⟨rfl, hb⟩
      have HLn := Lib.hid (HL.out.ext hb)
      have HXBn := Lib.hid (HXB.out.ext hb)
      clear HXB
      have HXB := HXBn
      clear HXBn
      clear hb HL
      have HL := HLn
      clear HLn
      obtain ⟨Wc, rfl⟩ : ∃ Wc, Wc = Wn := ⟨_, rfl⟩
      clear e0 e1 e2 e3 e4 e5
      obtain ⟨Wb, hWb⟩ : ∃ Wb, Wb = Wc := ⟨_, rfl⟩
      have HLb : Hid (LpS w P c gl a7 c7 [(kUri, strD nm), (kVersion, numD ver)] la lc acc Wb) := Lib.hid (by rw [hWb]; exact HL.out)
      have HSI : Hid (Sinc Wb Wc) := Lib.hid (by rw [hWb]; exact Below.refl _ _)
      obtain ⟨ga, hga⟩ : ∃ ga, ga = Wc.heap.size := ⟨_, rfl⟩
      have hsz := HL.out.pas.sz
      obtain ⟨Wn, hWn⟩ : ∃ Wn, Wn = Wc.alloc (.cells ([(kText, strD x.text)].flatMap ptC).toArray 74) := ⟨_, rfl⟩
      have hb : Below Wc.heap.size Wc Wn := by rw [hWn]; exact below_a1 _ _
      have HPga : Hid (PtsAt Wn (fun g => (P g ∧ g ≠ w.heap.size + 1) ∧ g ≠ gl ∧ rowOf la lc ≠ some g) (some ⟨ga, 0, none⟩) [(kText, strD x.text)]) := Lib.hid ⟨by rw [hWn, hga]; exact row_blk (Blk.new rfl) (flat_length ptC 7 ptC_len _), fun p hp => by
        simp only [List.mem_cons, List.mem_nil_iff, or_false] at hp
        rcases hp with rfl
        exact .leaf⟩
      have HOga : Hid (Own Wn (w.heap.size + 2) 74 7 (some ⟨ga, 0, none⟩) [(kText, strD x.text)].length [(kText, strD x.text)].length ([(kText, strD x.text)].flatMap ptC)) := Lib.hid (by rw [hWn, hga]; exact own_blk (cs := ([(kText, strD x.text)].flatMap ptC).toArray) (Blk.new rfl) (by omega) (by rw [List.size_toArray]; exact flat_length ptC 7 ptC_len _) (by simp [maxLen]))
      clear hsz
      have HLn := Lib.hid (HL.out.ext hb)
      have HXBn := Lib.hid (HXB.out.ext hb)
      clear HXB
      have HXB := HXBn
      clear HXBn
      have HSIn := Lib.hid (HSI.out.ext hb)
      clear HSI
      have HSI := HSIn
      clear HSIn
      clear hb HL
      have HL := HLn
      clear HLn
      simp only [List.flatMap_cons, List.flatMap_nil] at hWn
      try simp only [ptC_str] at hWn
      try simp only [ptC_num] at hWn
      try simp only [ptC_of] at hWn
      try simp only [List.cons_append, List.nil_append] at hWn
      simp only [List.append_nil, kText] at hWn
      have HGA : Hid (Wb.heap.size ≤ ga) := Lib.hid (by rw [hWb, hga]; exact Nat.le_refl _)
      clear hWb
      go_upto_region 15 with (fail)
      rw [← hWn, ← hga]
      clear hWn hga
      obtain ⟨Wc, rfl⟩ : ∃ Wc, Wc = Wn := ⟨_, rfl⟩
      obtain ⟨e0, e1, e2, e3, e4, e5⟩ := HXB.out.sixT
      obtain ⟨wh, hwh⟩ : ∃ q, q = x.whole := ⟨_, rfl⟩
      rw [← hwh] at e5
      have HWH := Lib.hid hwh
      clear hwh
      cases wh with
      | true =>
        clear e0 e1 e2 e3 e4
        go_upto_region 17 with (fail)
        obtain ⟨Wn, hWn⟩ : ∃ Wn, Wn = Wc.drew := ⟨_, rfl⟩
        have hb : Below Wc.heap.size Wc Wn := by rw [hWn]; exact (Below.refl _ _).drew
        have HLn := Lib.hid (HL.out.ext hb)
        have HPgan := Lib.hid (HPga.out.ext hb)
        clear HPga
        have HPga := HPgan
        clear HPgan
        clear hb HL
        have HL := HLn
        clear HLn
        refine wp_region_held_drew (S := (fun _ => True)) (by kernel_rfl) ?_ (fun hHeld => ?_)
        · trivial
        rw [← hWn]
        clear hWn
        obtain ⟨Wc, rfl⟩ : ∃ Wc, Wc = Wn := ⟨_, rfl⟩
        refine wpAnyH_take (i := 0) (oi := ⟨some 78, _, _, _, _, _⟩) (v := ?_) rfl (by kernel_rfl) (by kernel_rfl) (by kernel_rfl) (fun _ _ _ h => h) (Or.inl ⟨by rfl, ?_⟩) (by assumption) ?_; rotate_left; focus (intro w hSw; (try dsimp only at hSw); first | (go_simp; done) | (go_simp; with_reducible rfl))
        try simp only [Act.put]
        try simp only [List.setIfInBounds_toArray]
        try simp only [List.set_cons_succ, List.set_cons_zero]
        refine wpAnyH_take (i := 2) (oi := ⟨some 80, _, _, _, _, _⟩) (v := ?_) rfl (by kernel_rfl) (by kernel_rfl) (by kernel_rfl) (fun _ _ _ h => h) (Or.inl ⟨by rfl, ?_⟩) (by assumption) ?_; rotate_left; focus (intro w hSw; (try dsimp only at hSw); first | (go_simp; done) | (go_simp; with_reducible rfl))
        try simp only [Act.put]
        try simp only [List.setIfInBounds_toArray]
        try simp only [List.set_cons_succ, List.set_cons_zero]
        refine wpAnyH_ready (rs := [1, 3]) (by kernel_rfl) (by simp) ?_
        refine AllReadyH.cons (i := 1) (o := ⟨some 79, _, _, _, _, _⟩) rfl (fun K hK => ?_) ?_
        · have b4 := HL.out.lb.cell 4
          simp only [List.getElem?_toArray, List.getElem?_cons_zero, List.getElem?_cons_succ] at b4
          go_simp
          clear b4
          refine hK.out _ _ ?_ (fun hHeld => ?_)
          · trivial
          try simp only [Act.put]
          try simp only [List.setIfInBounds_toArray]
          try simp only [List.set_cons_succ, List.set_cons_zero]
          refine wpAnyH_ready (rs := [3]) (by kernel_rfl) (by simp) ?_
          refine AllReadyH.cons (i := 3) (o := ⟨some 81, _, _, _, _, _⟩) rfl (fun K hK => ?_) ?_
          · go_simp
            have hR := record_any (fun g => (P g ∧ g ≠ w.heap.size + 1) ∧ g ≠ gl ∧ rowOf la lc ≠ some g) (some ⟨ga, 0, none⟩) 1 [(kText, strD x.text)] Wc (HL.out.px HP.out) HPga.out (by simp)
            simp only [List.length_cons, List.length_nil, Nat.zero_add, Nat.reduceAdd] at hR
            refine hR.mono ?_
            clear hR
            rintro e Wn ⟨dx, rfl, hvdx, hddx, hb⟩
            have HVdx := Lib.hid hvdx
            have HDdx := Lib.hid hddx
            clear hvdx hddx
            have HLn := Lib.hid (HL.out.ext hb)
            have HPgan := Lib.hid (HPga.out.ext hb)
            clear HPga
            have HPga := HPgan
            clear HPgan
            clear hb HL
            have HL := HLn
            clear HLn
            obtain ⟨Wc, rfl⟩ : ∃ Wc, Wc = Wn := ⟨_, rfl⟩
            refine hK.out _ _ ?_ (fun hHeld => ?_)
            · trivial
            try simp only [Act.put]
            try simp only [List.setIfInBounds_toArray]
            try simp only [List.set_cons_succ, List.set_cons_zero]
            refine wpAnyH_ready (rs := [4]) (by kernel_rfl) (by simp) ?_
            refine AllReadyH.cons (i := 4) (o := ⟨some 82, _, _, _, _, _⟩) rfl (fun K hK => ?_) ?_
            · obtain ⟨gn, hgn⟩ : ∃ gn, gn = Wc.heap.size := ⟨_, rfl⟩
              obtain ⟨Wn, hWn⟩ : ∃ Wn, Wn = Wc.alloc (.cells #[.int .i64 dx.sort, .bool dx.on, .int .i64 dx.n, .string ⟨dx.text.toArray⟩, .slice dx.a dx.list.length dx.c, .slice dx.ka dx.keys.length dx.kc] 36) := ⟨_, rfl⟩
              have hb : Below Wc.heap.size Wc Wn := by rw [hWn]; exact below_a1 _ _
              have HNX : Hid (Blk Wn gn #[.int .i64 dx.sort, .bool dx.on, .int .i64 dx.n, .string ⟨dx.text.toArray⟩, .slice dx.a dx.list.length dx.c, .slice dx.ka dx.keys.length dx.kc] 36) := Lib.hid (by rw [hWn, hgn]; exact Blk.new rfl)
              have HLn := Lib.hid (HL.out.ext hb)
              have HDdxn := Lib.hid (HDdx.out.ext hb)
              clear HDdx
              have HDdx := HDdxn
              clear HDdxn
              clear hb HL
              have HL := HLn
              clear HLn
              go_simp
              rw [← hWn, ← hgn]
              clear hWn hgn
              obtain ⟨Wc, rfl⟩ : ∃ Wc, Wc = Wn := ⟨_, rfl⟩
              refine hK.out _ _ ?_ (fun hHeld => ?_)
              · trivial
              try simp only [Act.put]
              try simp only [List.setIfInBounds_toArray]
              try simp only [List.set_cons_succ, List.set_cons_zero]
              refine wpAnyH_ready (rs := [5]) (by kernel_rfl) (by simp) ?_
              refine AllReadyH.cons (i := 5) (o := ⟨some 83, _, _, _, _, _⟩) rfl (fun K hK => ?_) ?_
              · refine step_append_Own (act := ⟨_, []⟩) rfl (.tmp 79) (.tmp 82) 34 rfl (w.heap.size + 2) 36 _ 6 88 Tryz.underlying34 Tryz.infoVal rfl (by decide) la acc.length lc _ (by simp [go_sem]) HL.out.lo (some ⟨gn, 0, none⟩) 1 1 dx.cells (by simp [go_sem]) (row_blk (by rw [val_arr]; exact HNX.out) dx.len) (by rw [val_list]; intro u hu; simp at hu; rcases hu with rfl | rfl | rfl | rfl | rfl | rfl <;> rfl) (by have := HAL.out; unfold maxLen; omega) (by have := HAL.out; omega) HL.out.pas.sz ?_
                intro a5 c5 w5 ho5 hg5 hb5
                simp only [Act.put, List.setIfInBounds_toArray, List.set_cons_succ, List.set_cons_zero]
                have HM := Lib.hid (HL.out.more HDdx.out ho5 hg5 hb5)
                have HLB := Lib.hid (HL.out.lb.grown hg5 (fun e => HL.out.lne e.symm))
                clear ho5 hg5 hb5 HL
                refine hK.out _ _ ?_ (fun hHeld => ?_)
                · trivial
                try simp only [Act.put]
                try simp only [List.setIfInBounds_toArray]
                try simp only [List.set_cons_succ, List.set_cons_zero]
                refine wpAnyH_take (i := 6) (oi := ⟨some 84, _, _, _, _, _⟩) (v := ?_) rfl (by kernel_rfl) (by kernel_rfl) (by kernel_rfl) (fun _ _ _ h => h) (Or.inl ⟨by rfl, ?_⟩) (by assumption) ?_; rotate_left; focus (intro w hSw; (try dsimp only at hSw); first | (go_simp; done) | (go_simp; with_reducible rfl))
                try simp only [Act.put]
                try simp only [List.setIfInBounds_toArray]
                try simp only [List.set_cons_succ, List.set_cons_zero]
                refine wpAnyH_ready (rs := [7]) (by kernel_rfl) (by simp) ?_
                refine AllReadyH.cons (i := 7) (o := ⟨none, _, _, _, _, _⟩) rfl (fun K hK => ?_) ?_
                · have b4 := HLB.out.cell 4
                  have m4 := HLB.out.free 4
                  simp only [List.getElem?_toArray, List.getElem?_cons_zero, List.getElem?_cons_succ] at b4
                  go_simp
                  refine hK.out _ _ ?_ (fun hHeld => ?_)
                  · trivial
                  try simp only [Act.put]
                  try simp only [List.setIfInBounds_toArray]
                  try simp only [List.set_cons_succ, List.set_cons_zero]
                  refine wpAnyH_done (by kernel_rfl) ?_ _
                  clear hHeld
                  have hcl := HCL.out
                  go_wp2
                  go_roundw
                  case rel => exact ⟨k + 1, by omega, by go_num, Lib.hid ⟨a5, c5, acc ++ [dx], by rw [List.map_append, take_snoc1 HXE.out, List.map_append, HAC.out]; show _ ++ [dx.v] = _ ++ [editW x]; rw [HVdx.out]; show _ = _ ++ [editW x]; unfold editW; rw [← HWH.out]; rfl, HM.out⟩⟩
                  case measure => simp [intOf]; omega
                exact AllReadyH.nil
              exact AllReadyH.nil
            exact AllReadyH.nil
          exact AllReadyH.nil
        refine AllReadyH.cons (i := 3) (o := ⟨some 81, _, _, _, _, _⟩) rfl (fun K hK => ?_) ?_
        · go_simp
          have hR := record_any (fun g => (P g ∧ g ≠ w.heap.size + 1) ∧ g ≠ gl ∧ rowOf la lc ≠ some g) (some ⟨ga, 0, none⟩) 1 [(kText, strD x.text)] Wc (HL.out.px HP.out) HPga.out (by simp)
          simp only [List.length_cons, List.length_nil, Nat.zero_add, Nat.reduceAdd] at hR
          refine hR.mono ?_
          clear hR
          rintro e Wn ⟨dx, rfl, hvdx, hddx, hb⟩
          have HVdx := Lib.hid hvdx
          have HDdx := Lib.hid hddx
          clear hvdx hddx
          have HLn := Lib.hid (HL.out.ext hb)
          have HPgan := Lib.hid (HPga.out.ext hb)
          clear HPga
          have HPga := HPgan
          clear HPgan
          clear hb HL
          have HL := HLn
          clear HLn
          obtain ⟨Wc, rfl⟩ : ∃ Wc, Wc = Wn := ⟨_, rfl⟩
          refine hK.out _ _ ?_ (fun hHeld => ?_)
          · trivial
          try simp only [Act.put]
          try simp only [List.setIfInBounds_toArray]
          try simp only [List.set_cons_succ, List.set_cons_zero]
          refine wpAnyH_ready (rs := [1, 4]) (by kernel_rfl) (by simp) ?_
          refine AllReadyH.cons (i := 1) (o := ⟨some 79, _, _, _, _, _⟩) rfl (fun K hK => ?_) ?_
          · have b4 := HL.out.lb.cell 4
            simp only [List.getElem?_toArray, List.getElem?_cons_zero, List.getElem?_cons_succ] at b4
            go_simp
            clear b4
            refine hK.out _ _ ?_ (fun hHeld => ?_)
            · trivial
            try simp only [Act.put]
            try simp only [List.setIfInBounds_toArray]
            try simp only [List.set_cons_succ, List.set_cons_zero]
            refine wpAnyH_ready (rs := [4]) (by kernel_rfl) (by simp) ?_
            refine AllReadyH.cons (i := 4) (o := ⟨some 82, _, _, _, _, _⟩) rfl (fun K hK => ?_) ?_
            · obtain ⟨gn, hgn⟩ : ∃ gn, gn = Wc.heap.size := ⟨_, rfl⟩
              obtain ⟨Wn, hWn⟩ : ∃ Wn, Wn = Wc.alloc (.cells #[.int .i64 dx.sort, .bool dx.on, .int .i64 dx.n, .string ⟨dx.text.toArray⟩, .slice dx.a dx.list.length dx.c, .slice dx.ka dx.keys.length dx.kc] 36) := ⟨_, rfl⟩
              have hb : Below Wc.heap.size Wc Wn := by rw [hWn]; exact below_a1 _ _
              have HNX : Hid (Blk Wn gn #[.int .i64 dx.sort, .bool dx.on, .int .i64 dx.n, .string ⟨dx.text.toArray⟩, .slice dx.a dx.list.length dx.c, .slice dx.ka dx.keys.length dx.kc] 36) := Lib.hid (by rw [hWn, hgn]; exact Blk.new rfl)
              have HLn := Lib.hid (HL.out.ext hb)
              have HDdxn := Lib.hid (HDdx.out.ext hb)
              clear HDdx
              have HDdx := HDdxn
              clear HDdxn
              clear hb HL
              have HL := HLn
              clear HLn
              go_simp
              rw [← hWn, ← hgn]
              clear hWn hgn
              obtain ⟨Wc, rfl⟩ : ∃ Wc, Wc = Wn := ⟨_, rfl⟩
              refine hK.out _ _ ?_ (fun hHeld => ?_)
              · trivial
              try simp only [Act.put]
              try simp only [List.setIfInBounds_toArray]
              try simp only [List.set_cons_succ, List.set_cons_zero]
              refine wpAnyH_ready (rs := [5]) (by kernel_rfl) (by simp) ?_
              refine AllReadyH.cons (i := 5) (o := ⟨some 83, _, _, _, _, _⟩) rfl (fun K hK => ?_) ?_
              · refine step_append_Own (act := ⟨_, []⟩) rfl (.tmp 79) (.tmp 82) 34 rfl (w.heap.size + 2) 36 _ 6 88 Tryz.underlying34 Tryz.infoVal rfl (by decide) la acc.length lc _ (by simp [go_sem]) HL.out.lo (some ⟨gn, 0, none⟩) 1 1 dx.cells (by simp [go_sem]) (row_blk (by rw [val_arr]; exact HNX.out) dx.len) (by rw [val_list]; intro u hu; simp at hu; rcases hu with rfl | rfl | rfl | rfl | rfl | rfl <;> rfl) (by have := HAL.out; unfold maxLen; omega) (by have := HAL.out; omega) HL.out.pas.sz ?_
                intro a5 c5 w5 ho5 hg5 hb5
                simp only [Act.put, List.setIfInBounds_toArray, List.set_cons_succ, List.set_cons_zero]
                have HM := Lib.hid (HL.out.more HDdx.out ho5 hg5 hb5)
                have HLB := Lib.hid (HL.out.lb.grown hg5 (fun e => HL.out.lne e.symm))
                clear ho5 hg5 hb5 HL
                refine hK.out _ _ ?_ (fun hHeld => ?_)
                · trivial
                try simp only [Act.put]
                try simp only [List.setIfInBounds_toArray]
                try simp only [List.set_cons_succ, List.set_cons_zero]
                refine wpAnyH_take (i := 6) (oi := ⟨some 84, _, _, _, _, _⟩) (v := ?_) rfl (by kernel_rfl) (by kernel_rfl) (by kernel_rfl) (fun _ _ _ h => h) (Or.inl ⟨by rfl, ?_⟩) (by assumption) ?_; rotate_left; focus (intro w hSw; (try dsimp only at hSw); first | (go_simp; done) | (go_simp; with_reducible rfl))
                try simp only [Act.put]
                try simp only [List.setIfInBounds_toArray]
                try simp only [List.set_cons_succ, List.set_cons_zero]
                refine wpAnyH_ready (rs := [7]) (by kernel_rfl) (by simp) ?_
                refine AllReadyH.cons (i := 7) (o := ⟨none, _, _, _, _, _⟩) rfl (fun K hK => ?_) ?_
                · have b4 := HLB.out.cell 4
                  have m4 := HLB.out.free 4
                  simp only [List.getElem?_toArray, List.getElem?_cons_zero, List.getElem?_cons_succ] at b4
                  go_simp
                  refine hK.out _ _ ?_ (fun hHeld => ?_)
                  · trivial
                  try simp only [Act.put]
                  try simp only [List.setIfInBounds_toArray]
                  try simp only [List.set_cons_succ, List.set_cons_zero]
                  refine wpAnyH_done (by kernel_rfl) ?_ _
                  clear hHeld
                  have hcl := HCL.out
                  go_wp2
                  go_roundw
                  case rel => exact ⟨k + 1, by omega, by go_num, Lib.hid ⟨a5, c5, acc ++ [dx], by rw [List.map_append, take_snoc1 HXE.out, List.map_append, HAC.out]; show _ ++ [dx.v] = _ ++ [editW x]; rw [HVdx.out]; show _ = _ ++ [editW x]; unfold editW; rw [← HWH.out]; rfl, HM.out⟩⟩
                  case measure => simp [intOf]; omega
                exact AllReadyH.nil
              exact AllReadyH.nil
            exact AllReadyH.nil
          refine AllReadyH.cons (i := 4) (o := ⟨some 82, _, _, _, _, _⟩) rfl (fun K hK => ?_) ?_
          · obtain ⟨gn, hgn⟩ : ∃ gn, gn = Wc.heap.size := ⟨_, rfl⟩
            obtain ⟨Wn, hWn⟩ : ∃ Wn, Wn = Wc.alloc (.cells #[.int .i64 dx.sort, .bool dx.on, .int .i64 dx.n, .string ⟨dx.text.toArray⟩, .slice dx.a dx.list.length dx.c, .slice dx.ka dx.keys.length dx.kc] 36) := ⟨_, rfl⟩
            have hb : Below Wc.heap.size Wc Wn := by rw [hWn]; exact below_a1 _ _
            have HNX : Hid (Blk Wn gn #[.int .i64 dx.sort, .bool dx.on, .int .i64 dx.n, .string ⟨dx.text.toArray⟩, .slice dx.a dx.list.length dx.c, .slice dx.ka dx.keys.length dx.kc] 36) := Lib.hid (by rw [hWn, hgn]; exact Blk.new rfl)
            have HLn := Lib.hid (HL.out.ext hb)
            have HDdxn := Lib.hid (HDdx.out.ext hb)
            clear HDdx
            have HDdx := HDdxn
            clear HDdxn
            clear hb HL
            have HL := HLn
            clear HLn
            go_simp
            rw [← hWn, ← hgn]
            clear hWn hgn
            obtain ⟨Wc, rfl⟩ : ∃ Wc, Wc = Wn := ⟨_, rfl⟩
            refine hK.out _ _ ?_ (fun hHeld => ?_)
            · trivial
            try simp only [Act.put]
            try simp only [List.setIfInBounds_toArray]
            try simp only [List.set_cons_succ, List.set_cons_zero]
            refine wpAnyH_ready (rs := [1]) (by kernel_rfl) (by simp) ?_
            refine AllReadyH.cons (i := 1) (o := ⟨some 79, _, _, _, _, _⟩) rfl (fun K hK => ?_) ?_
            · have b4 := HL.out.lb.cell 4
              simp only [List.getElem?_toArray, List.getElem?_cons_zero, List.getElem?_cons_succ] at b4
              go_simp
              clear b4
              refine hK.out _ _ ?_ (fun hHeld => ?_)
              · trivial
              try simp only [Act.put]
              try simp only [List.setIfInBounds_toArray]
              try simp only [List.set_cons_succ, List.set_cons_zero]
              refine wpAnyH_ready (rs := [5]) (by kernel_rfl) (by simp) ?_
              refine AllReadyH.cons (i := 5) (o := ⟨some 83, _, _, _, _, _⟩) rfl (fun K hK => ?_) ?_
              · refine step_append_Own (act := ⟨_, []⟩) rfl (.tmp 79) (.tmp 82) 34 rfl (w.heap.size + 2) 36 _ 6 88 Tryz.underlying34 Tryz.infoVal rfl (by decide) la acc.length lc _ (by simp [go_sem]) HL.out.lo (some ⟨gn, 0, none⟩) 1 1 dx.cells (by simp [go_sem]) (row_blk (by rw [val_arr]; exact HNX.out) dx.len) (by rw [val_list]; intro u hu; simp at hu; rcases hu with rfl | rfl | rfl | rfl | rfl | rfl <;> rfl) (by have := HAL.out; unfold maxLen; omega) (by have := HAL.out; omega) HL.out.pas.sz ?_
                intro a5 c5 w5 ho5 hg5 hb5
                simp only [Act.put, List.setIfInBounds_toArray, List.set_cons_succ, List.set_cons_zero]
                have HM := Lib.hid (HL.out.more HDdx.out ho5 hg5 hb5)
                have HLB := Lib.hid (HL.out.lb.grown hg5 (fun e => HL.out.lne e.symm))
                clear ho5 hg5 hb5 HL
                refine hK.out _ _ ?_ (fun hHeld => ?_)
                · trivial
                try simp only [Act.put]
                try simp only [List.setIfInBounds_toArray]
                try simp only [List.set_cons_succ, List.set_cons_zero]
                refine wpAnyH_take (i := 6) (oi := ⟨some 84, _, _, _, _, _⟩) (v := ?_) rfl (by kernel_rfl) (by kernel_rfl) (by kernel_rfl) (fun _ _ _ h => h) (Or.inl ⟨by rfl, ?_⟩) (by assumption) ?_; rotate_left; focus (intro w hSw; (try dsimp only at hSw); first | (go_simp; done) | (go_simp; with_reducible rfl))
                try simp only [Act.put]
                try simp only [List.setIfInBounds_toArray]
                try simp only [List.set_cons_succ, List.set_cons_zero]
                refine wpAnyH_ready (rs := [7]) (by kernel_rfl) (by simp) ?_
                refine AllReadyH.cons (i := 7) (o := ⟨none, _, _, _, _, _⟩) rfl (fun K hK => ?_) ?_
                · have b4 := HLB.out.cell 4
                  have m4 := HLB.out.free 4
                  simp only [List.getElem?_toArray, List.getElem?_cons_zero, List.getElem?_cons_succ] at b4
                  go_simp
                  refine hK.out _ _ ?_ (fun hHeld => ?_)
                  · trivial
                  try simp only [Act.put]
                  try simp only [List.setIfInBounds_toArray]
                  try simp only [List.set_cons_succ, List.set_cons_zero]
                  refine wpAnyH_done (by kernel_rfl) ?_ _
                  clear hHeld
                  have hcl := HCL.out
                  go_wp2
                  go_roundw
                  case rel => exact ⟨k + 1, by omega, by go_num, Lib.hid ⟨a5, c5, acc ++ [dx], by rw [List.map_append, take_snoc1 HXE.out, List.map_append, HAC.out]; show _ ++ [dx.v] = _ ++ [editW x]; rw [HVdx.out]; show _ = _ ++ [editW x]; unfold editW; rw [← HWH.out]; rfl, HM.out⟩⟩
                  case measure => simp [intOf]; omega
                exact AllReadyH.nil
              exact AllReadyH.nil
            exact AllReadyH.nil
          exact AllReadyH.nil
        exact AllReadyH.nil
      | false =>
        go_upto_region 16 with (fail)
        clear e0 e1 e2 e3 e4 e5
        obtain ⟨Wn, hWn⟩ : ∃ Wn, Wn = Wc.drew := ⟨_, rfl⟩
        have hb : Below Wc.heap.size Wc Wn := by rw [hWn]; exact (Below.refl _ _).drew
        have HLn := Lib.hid (HL.out.ext hb)
        have HXBn := Lib.hid (HXB.out.ext hb)
        clear HXB
        have HXB := HXBn
        clear HXBn
        have HPgan := Lib.hid (HPga.out.ext hb)
        clear HPga
        have HPga := HPgan
        clear HPgan
        have HOgan := Lib.hid (HOga.out.ext hb)
        clear HOga
        have HOga := HOgan
        clear HOgan
        have HSIn := Lib.hid (HSI.out.ext hb)
        clear HSI
        have HSI := HSIn
        clear HSIn
        clear hb HL
        have HL := HLn
        clear HLn
        refine wp_region_held_drew (S := (fun w' => Blk w' gx #[.int .i64 x.fl, .int .i64 x.fu, .int .i64 x.tl, .int .i64 x.tu, .string ⟨x.text.toArray⟩, .bool x.whole] 82)) (by kernel_rfl) ?_ (fun hHeld => ?_)
        · rw [← hWn]
          exact HXB.out
        rw [← hWn] at hHeld ⊢
        clear hWn
        obtain ⟨Wc, rfl⟩ : ∃ Wc, Wc = Wn := ⟨_, rfl⟩
        refine wpAnyH_take (i := 0) (oi := ⟨some 62, _, _, _, _, _⟩) (v := ?_) rfl (by kernel_rfl) (by kernel_rfl) (by kernel_rfl) (fun _ _ _ h => h) (Or.inl ⟨by rfl, ?_⟩) (by assumption) ?_; rotate_left; focus (intro w hSw; (try dsimp only at hSw); first | (go_simp; done) | (go_simp; with_reducible rfl))
        try simp only [Act.put]
        try simp only [List.setIfInBounds_toArray]
        try simp only [List.set_cons_succ, List.set_cons_zero]
        refine wpAnyH_take (i := 1) (oi := ⟨some 63, _, _, _, _, _⟩) (v := ?_) rfl (by kernel_rfl) (by kernel_rfl) (by kernel_rfl) (fun _ _ _ h => h) (Or.inl ⟨by rfl, ?_⟩) (by assumption) ?_; rotate_left; focus (intro w hSw; (try dsimp only at hSw); first | (go_simp; done) | (go_simp; with_reducible rfl))
        try simp only [Act.put]
        try simp only [List.setIfInBounds_toArray]
        try simp only [List.set_cons_succ, List.set_cons_zero]
        refine wpAnyH_take (i := 2) (oi := ⟨some 64, _, _, _, _, _⟩) (v := ?_) rfl (by kernel_rfl) (by kernel_rfl) (by kernel_rfl) (fun _ _ _ h => h) (Or.inl ⟨by rfl, ?_⟩) (by assumption) ?_; rotate_left; focus (intro w hSw; (try dsimp only at hSw); first | (go_simp; done) | (go_simp; with_reducible rfl))
        try simp only [Act.put]
        try simp only [List.setIfInBounds_toArray]
        try simp only [List.set_cons_succ, List.set_cons_zero]
        refine wpAnyH_take (i := 3) (oi := ⟨some 65, _, _, _, _, _⟩) (v := ?_) rfl (by kernel_rfl) (by kernel_rfl) (by kernel_rfl) (fun _ _ _ h => h) (Or.inl ⟨by rfl, ?_⟩) (by assumption) ?_; rotate_left; focus (intro w hSw; (try dsimp only at hSw); obtain ⟨a0, a1, a2, a3, a4, a5⟩ := Blk.sixT hSw; first | (go_simp; done) | (go_simp; with_reducible rfl))
        try simp only [Act.put]
        try simp only [List.setIfInBounds_toArray]
        try simp only [List.set_cons_succ, List.set_cons_zero]
        refine wpAnyH_take (i := 6) (oi := ⟨some 68, _, _, _, _, _⟩) (v := ?_) rfl (by kernel_rfl) (by kernel_rfl) (by kernel_rfl) (fun _ _ _ h => h) (Or.inl ⟨by rfl, ?_⟩) (by assumption) ?_; rotate_left; focus (intro w hSw; (try dsimp only at hSw); first | (go_simp; done) | (go_simp; with_reducible rfl))
        try simp only [Act.put]
        try simp only [List.setIfInBounds_toArray]
        try simp only [List.set_cons_succ, List.set_cons_zero]
        refine wpAnyH_take (i := 7) (oi := ⟨some 69, _, _, _, _, _⟩) (v := ?_) rfl (by kernel_rfl) (by kernel_rfl) (by kernel_rfl) (fun _ _ _ h => h) (Or.inl ⟨by rfl, ?_⟩) (by assumption) ?_; rotate_left; focus (intro w hSw; (try dsimp only at hSw); first | (go_simp; done) | (go_simp; with_reducible rfl))
        try simp only [Act.put]
        try simp only [List.setIfInBounds_toArray]
        try simp only [List.set_cons_succ, List.set_cons_zero]
        refine wpAnyH_take (i := 8) (oi := ⟨some 70, _, _, _, _, _⟩) (v := ?_) rfl (by kernel_rfl) (by kernel_rfl) (by kernel_rfl) (fun _ _ _ h => h) (Or.inl ⟨by rfl, ?_⟩) (by assumption) ?_; rotate_left; focus (intro w hSw; (try dsimp only at hSw); obtain ⟨a0, a1, a2, a3, a4, a5⟩ := Blk.sixT hSw; first | (go_simp; done) | (go_simp; with_reducible rfl))
        try simp only [Act.put]
        try simp only [List.setIfInBounds_toArray]
        try simp only [List.set_cons_succ, List.set_cons_zero]
        refine wpAnyH_ready (rs := [4]) (by kernel_rfl) (by simp) ?_
        refine AllReadyH.cons (i := 4) (o := ⟨some 66, _, _, _, _, _⟩) rfl (fun K hK => ?_) ?_
        · go_simp
          refine (at_any (fun g => ((P g ∧ g ≠ w.heap.size + 1) ∧ g ≠ gl ∧ rowOf la lc ≠ some g) ∧ g ≠ ga) x.fl x.fu Wc (fun g hg => ⟨HL.out.px HP.out g hg, by have h9 : ga < Wc.heap.size := (HOga.out.size (by simp) rfl).2; omega⟩)).mono ?_
          rintro e Wn ⟨dS, rfl, hvdS, hddS, hb⟩
          have HVdS := Lib.hid hvdS
          have HDdS := Lib.hid hddS
          clear hvdS hddS
          have HLn := Lib.hid (HL.out.ext hb)
          have HXBn := Lib.hid (HXB.out.ext hb)
          clear HXB
          have HXB := HXBn
          clear HXBn
          have HPgan := Lib.hid (HPga.out.ext hb)
          clear HPga
          have HPga := HPgan
          clear HPgan
          have HOgan := Lib.hid (HOga.out.ext hb)
          clear HOga
          have HOga := HOgan
          clear HOgan
          have HSIn := Lib.hid (HSI.out.ext hb)
          clear HSI
          have HSI := HSIn
          clear HSIn
          clear hb HL
          have HL := HLn
          clear HLn
          obtain ⟨Wc, rfl⟩ : ∃ Wc, Wc = Wn := ⟨_, rfl⟩
          refine hK.out _ _ ?_ (fun hHeld => ?_)
          · exact HXB.out
          try simp only [Act.put]
          try simp only [List.setIfInBounds_toArray]
          try simp only [List.set_cons_succ, List.set_cons_zero]
          refine wpAnyH_take (i := 5) (oi := ⟨some 67, _, _, _, _, _⟩) (v := ?_) rfl (by kernel_rfl) (by kernel_rfl) (by kernel_rfl) (fun _ _ _ h => h) (Or.inl ⟨by rfl, ?_⟩) (by assumption) ?_; rotate_left; focus (intro w hSw; (try dsimp only at hSw); first | (go_simp; done) | (go_simp; with_reducible rfl))
          try simp only [Act.put]
          try simp only [List.setIfInBounds_toArray]
          try simp only [List.set_cons_succ, List.set_cons_zero]
          refine wpAnyH_ready (rs := [9]) (by kernel_rfl) (by simp) ?_
          refine AllReadyH.cons (i := 9) (o := ⟨some 71, _, _, _, _, _⟩) rfl (fun K hK => ?_) ?_
          · go_simp
            refine (at_any (fun g => ((P g ∧ g ≠ w.heap.size + 1) ∧ g ≠ gl ∧ rowOf la lc ≠ some g) ∧ g ≠ ga) x.tl x.tu Wc (fun g hg => ⟨HL.out.px HP.out g hg, by have h9 : ga < Wc.heap.size := (HOga.out.size (by simp) rfl).2; omega⟩)).mono ?_
            rintro e Wn ⟨dE, rfl, hvdE, hddE, hb⟩
            have HVdE := Lib.hid hvdE
            have HDdE := Lib.hid hddE
            clear hvdE hddE
            have HLn := Lib.hid (HL.out.ext hb)
            have HXBn := Lib.hid (HXB.out.ext hb)
            clear HXB
            have HXB := HXBn
            clear HXBn
            have HPgan := Lib.hid (HPga.out.ext hb)
            clear HPga
            have HPga := HPgan
            clear HPgan
            have HOgan := Lib.hid (HOga.out.ext hb)
            clear HOga
            have HOga := HOgan
            clear HOgan
            have HSIn := Lib.hid (HSI.out.ext hb)
            clear HSI
            have HSI := HSIn
            clear HSIn
            have HDdSn := Lib.hid (HDdS.out.ext hb)
            clear HDdS
            have HDdS := HDdSn
            clear HDdSn
            clear hb HL
            have HL := HLn
            clear HLn
            obtain ⟨Wc, rfl⟩ : ∃ Wc, Wc = Wn := ⟨_, rfl⟩
            refine hK.out _ _ ?_ (fun hHeld => ?_)
            · exact HXB.out
            try simp only [Act.put]
            try simp only [List.setIfInBounds_toArray]
            try simp only [List.set_cons_succ, List.set_cons_zero]
            refine wpAnyH_take (i := 10) (oi := ⟨some 72, _, _, _, _, _⟩) (v := ?_) rfl (by kernel_rfl) (by kernel_rfl) (by kernel_rfl) (fun _ _ _ h => h) (Or.inl ⟨by rfl, ?_⟩) (by assumption) ?_; rotate_left; focus (intro w hSw; (try dsimp only at hSw); first | (go_simp; done) | (go_simp; with_reducible rfl))
            try simp only [Act.put]
            try simp only [List.setIfInBounds_toArray]
            try simp only [List.set_cons_succ, List.set_cons_zero]
            refine wpAnyH_ready (rs := [11]) (by kernel_rfl) (by simp) ?_
            refine AllReadyH.cons (i := 11) (o := ⟨some 73, _, _, _, _, _⟩) rfl (fun K hK => ?_) ?_
            · obtain ⟨gv, hgv⟩ : ∃ gv, gv = Wc.heap.size := ⟨_, rfl⟩
              have hsz := HL.out.pas.sz
              obtain ⟨Wn, hWn⟩ : ∃ Wn, Wn = Wc.alloc (.cells ([(kStart, dS), (kEnd, dE)].flatMap ptC).toArray 74) := ⟨_, rfl⟩
              have hb : Below Wc.heap.size Wc Wn := by rw [hWn]; exact below_a1 _ _
              have HPgv : Hid (PtsAt Wn (fun g => ((P g ∧ g ≠ w.heap.size + 1) ∧ g ≠ gl ∧ rowOf la lc ≠ some g) ∧ g ≠ ga) (some ⟨gv, 0, none⟩) [(kStart, dS), (kEnd, dE)]) := Lib.hid ⟨by rw [hWn, hgv]; exact row_blk (Blk.new rfl) (flat_length ptC 7 ptC_len _), fun p hp => by
                simp only [List.mem_cons, List.mem_nil_iff, or_false] at hp
                rcases hp with rfl | rfl
                · exact HDdS.out.ext hb
                · exact HDdE.out.ext hb⟩
              have HOgv : Hid (Own Wn (w.heap.size + 2) 74 7 (some ⟨gv, 0, none⟩) [(kStart, dS), (kEnd, dE)].length [(kStart, dS), (kEnd, dE)].length ([(kStart, dS), (kEnd, dE)].flatMap ptC)) := Lib.hid (by rw [hWn, hgv]; exact own_blk (cs := ([(kStart, dS), (kEnd, dE)].flatMap ptC).toArray) (Blk.new rfl) (by omega) (by rw [List.size_toArray]; exact flat_length ptC 7 ptC_len _) (by simp [maxLen]))
              clear hsz
              have HLn := Lib.hid (HL.out.ext hb)
              have HXBn := Lib.hid (HXB.out.ext hb)
              clear HXB
              have HXB := HXBn
              clear HXBn
              have HPgan := Lib.hid (HPga.out.ext hb)
              clear HPga
              have HPga := HPgan
              clear HPgan
              have HOgan := Lib.hid (HOga.out.ext hb)
              clear HOga
              have HOga := HOgan
              clear HOgan
              have HSIn := Lib.hid (HSI.out.ext hb)
              clear HSI
              have HSI := HSIn
              clear HSIn
              clear hb HL
              have HL := HLn
              clear HLn
              simp only [List.flatMap_cons, List.flatMap_nil] at hWn
              try simp only [ptC_str] at hWn
              try simp only [ptC_num] at hWn
              try simp only [ptC_of] at hWn
              try simp only [List.cons_append, List.nil_append] at hWn
              simp only [List.append_nil, kStart, kEnd] at hWn
              go_simp
              rw [← hWn, ← hgv]
              clear hWn hgv
              obtain ⟨Wc, rfl⟩ : ∃ Wc, Wc = Wn := ⟨_, rfl⟩
              refine hK.out _ _ ?_ (fun hHeld => ?_)
              · exact HXB.out
              try simp only [Act.put]
              try simp only [List.setIfInBounds_toArray]
              try simp only [List.set_cons_succ, List.set_cons_zero]
              refine wpAnyH_ready (rs := [12]) (by kernel_rfl) (by simp) ?_
              refine AllReadyH.cons (i := 12) (o := ⟨some 74, _, _, _, _, _⟩) rfl (fun K hK => ?_) ?_
              · go_simp
                have hR := record_any (fun g => ((P g ∧ g ≠ w.heap.size + 1) ∧ g ≠ gl ∧ rowOf la lc ≠ some g) ∧ g ≠ ga) (some ⟨gv, 0, none⟩) 2 [(kStart, dS), (kEnd, dE)] Wc (fun g hg => ⟨HL.out.px HP.out g hg, by have h9 : ga < Wc.heap.size := (HOga.out.size (by simp) rfl).2; omega⟩) HPgv.out (by simp)
                simp only [List.length_cons, List.length_nil, Nat.zero_add, Nat.reduceAdd] at hR
                refine hR.mono ?_
                clear hR
                rintro e Wn ⟨dR, rfl, hvdR, hddR, hb⟩
                have HVdR := Lib.hid hvdR
                have HDdR := Lib.hid hddR
                clear hvdR hddR
                have HLn := Lib.hid (HL.out.ext hb)
                have HXBn := Lib.hid (HXB.out.ext hb)
                clear HXB
                have HXB := HXBn
                clear HXBn
                have HPgan := Lib.hid (HPga.out.ext hb)
                clear HPga
                have HPga := HPgan
                clear HPgan
                have HOgan := Lib.hid (HOga.out.ext hb)
                clear HOga
                have HOga := HOgan
                clear HOgan
                have HSIn := Lib.hid (HSI.out.ext hb)
                clear HSI
                have HSI := HSIn
                clear HSIn
                clear hb HL
                have HL := HLn
                clear HLn
                obtain ⟨Wc, rfl⟩ : ∃ Wc, Wc = Wn := ⟨_, rfl⟩
                refine hK.out _ _ ?_ (fun hHeld => ?_)
                · exact HXB.out
                try simp only [Act.put]
                try simp only [List.setIfInBounds_toArray]
                try simp only [List.set_cons_succ, List.set_cons_zero]
                refine wpAnyH_take (i := 13) (oi := ⟨some 75, _, _, _, _, _⟩) (v := ?_) rfl (by kernel_rfl) (by kernel_rfl) (by kernel_rfl) (fun _ _ _ h => h) (Or.inl ⟨by rfl, ?_⟩) (by assumption) ?_; rotate_left; focus (intro w hSw; (try dsimp only at hSw); first | (go_simp; done) | (go_simp; with_reducible rfl))
                try simp only [Act.put]
                try simp only [List.setIfInBounds_toArray]
                try simp only [List.set_cons_succ, List.set_cons_zero]
                refine wpAnyH_ready (rs := [14]) (by kernel_rfl) (by simp) ?_
                refine AllReadyH.cons (i := 14) (o := ⟨some 76, _, _, _, _, _⟩) rfl (fun K hK => ?_) ?_
                · obtain ⟨gw, hgw⟩ : ∃ gw, gw = Wc.heap.size := ⟨_, rfl⟩
                  have hsz := HL.out.pas.sz
                  obtain ⟨Wn, hWn⟩ : ∃ Wn, Wn = Wc.alloc (.cells ([(kRange, dR)].flatMap ptC).toArray 74) := ⟨_, rfl⟩
                  have hb : Below Wc.heap.size Wc Wn := by rw [hWn]; exact below_a1 _ _
                  have HPgw : Hid (PtsAt Wn (fun g => ((P g ∧ g ≠ w.heap.size + 1) ∧ g ≠ gl ∧ rowOf la lc ≠ some g) ∧ g ≠ ga) (some ⟨gw, 0, none⟩) [(kRange, dR)]) := Lib.hid ⟨by rw [hWn, hgw]; exact row_blk (Blk.new rfl) (flat_length ptC 7 ptC_len _), fun p hp => by
                    simp only [List.mem_cons, List.mem_nil_iff, or_false] at hp
                    rcases hp with rfl
                    exact HDdR.out.ext hb⟩
                  have HOgw : Hid (Own Wn (w.heap.size + 2) 74 7 (some ⟨gw, 0, none⟩) [(kRange, dR)].length [(kRange, dR)].length ([(kRange, dR)].flatMap ptC)) := Lib.hid (by rw [hWn, hgw]; exact own_blk (cs := ([(kRange, dR)].flatMap ptC).toArray) (Blk.new rfl) (by omega) (by rw [List.size_toArray]; exact flat_length ptC 7 ptC_len _) (by simp [maxLen]))
                  clear hsz
                  have HLn := Lib.hid (HL.out.ext hb)
                  have HXBn := Lib.hid (HXB.out.ext hb)
                  clear HXB
                  have HXB := HXBn
                  clear HXBn
                  have HPgan := Lib.hid (HPga.out.ext hb)
                  clear HPga
                  have HPga := HPgan
                  clear HPgan
                  have HOgan := Lib.hid (HOga.out.ext hb)
                  clear HOga
                  have HOga := HOgan
                  clear HOgan
                  have HSIn := Lib.hid (HSI.out.ext hb)
                  clear HSI
                  have HSI := HSIn
                  clear HSIn
                  have HDdRn := Lib.hid (HDdR.out.ext hb)
                  clear HDdR
                  have HDdR := HDdRn
                  clear HDdRn
                  clear hb HL
                  have HL := HLn
                  clear HLn
                  simp only [List.flatMap_cons, List.flatMap_nil] at hWn
                  try simp only [ptC_str] at hWn
                  try simp only [ptC_num] at hWn
                  try simp only [ptC_of] at hWn
                  try simp only [List.cons_append, List.nil_append] at hWn
                  simp only [List.append_nil, kRange] at hWn
                  go_simp
                  rw [← hWn, ← hgw]
                  clear hWn hgw
                  obtain ⟨Wc, rfl⟩ : ∃ Wc, Wc = Wn := ⟨_, rfl⟩
                  refine hK.out _ _ ?_ (fun hHeld => ?_)
                  · exact HXB.out
                  try simp only [Act.put]
                  try simp only [List.setIfInBounds_toArray]
                  try simp only [List.set_cons_succ, List.set_cons_zero]
                  refine wpAnyH_ready (rs := [15]) (by kernel_rfl) (by simp) ?_
                  refine AllReadyH.cons (i := 15) (o := ⟨some 77, _, _, _, _, _⟩) rfl (fun K hK => ?_) ?_
                  · refine step_append_Own (act := ⟨_, []⟩) rfl (.tmp 62) (.tmp 76) 75 rfl (w.heap.size + 2) 74 _ 7 104 Tryz.underlying75 Tryz.infoPart rfl (by decide) (some ⟨ga, 0, none⟩) 1 1 _ (by simp [go_sem]) HOga.out (some ⟨gw, 0, none⟩) 1 1 _ (by simp [go_sem]) HPgw.out.row ptC_one (by simp [maxLen]) (by simp) HL.out.pas.sz ?_
                    intro a9 c9 w9 ho9 hg9 hb9
                    simp only [Act.put, List.setIfInBounds_toArray, List.set_cons_succ, List.set_cons_zero]
                    have HL9 := Lib.hid (HLb.out.ext (Below.grown HSI.out hg9 HSI.out.size (fun j hj => by have := HGA.out; simp [rowOf, blockOf] at hj; omega)))
                    have HX9 := Lib.hid (HXB.out.grown hg9 (HOga.out.notBlk HXB.out (by decide)))
                    have HD9 := Lib.hid ((HDdR.out.congr fun g h1 h2 => hg9.block g h2 (fun e => h1.2 (by simp [rowOf, blockOf] at e; exact e))).mono fun g h1 _ => h1.1)
                    have HP9 : Hid (PtsAt w9 (fun g => (P g ∧ g ≠ w.heap.size + 1) ∧ g ≠ gl ∧ rowOf la lc ≠ some g) a9 [(kText, strD x.text), (kRange, dR)]) := Lib.hid ⟨by have := ho9.row; simpa [List.flatMap_cons] using this, fun p hp => by
                      simp only [List.mem_cons, List.mem_nil_iff, or_false] at hp
                      rcases hp with rfl | rfl
                      · exact .leaf
                      · exact HD9.out⟩
                    clear ho9 hg9 hb9 HL HXB HDdR HD9 HOga HPga HPgw HSI HLb
                    have HL := HL9
                    have HXB := HX9
                    clear HL9 HX9
                    obtain ⟨Wc, rfl⟩ : ∃ Wc, Wc = w9 := ⟨_, rfl⟩
                    refine hK.out _ _ ?_ (fun hHeld => ?_)
                    · exact HXB.out
                    try simp only [Act.put]
                    try simp only [List.setIfInBounds_toArray]
                    try simp only [List.set_cons_succ, List.set_cons_zero]
                    refine wpAnyH_take (i := 16) (oi := ⟨some 8, _, _, _, _, _⟩) (v := ?_) rfl (by kernel_rfl) (by kernel_rfl) (by kernel_rfl) (fun _ _ _ h => h) (Or.inl ⟨by rfl, ?_⟩) (by assumption) ?_; rotate_left; focus (intro w hSw; (try dsimp only at hSw); first | (go_simp; done) | (go_simp; with_reducible rfl))
                    try simp only [Act.put]
                    try simp only [List.setIfInBounds_toArray]
                    try simp only [List.set_cons_succ, List.set_cons_zero]
                    refine wpAnyH_done (by kernel_rfl) ?_ _
                    clear hHeld HXB
                    go_upto_region 17 with (fail)
                    obtain ⟨Wn, hWn⟩ : ∃ Wn, Wn = Wc.drew := ⟨_, rfl⟩
                    have hb : Below Wc.heap.size Wc Wn := by rw [hWn]; exact (Below.refl _ _).drew
                    have HLn := Lib.hid (HL.out.ext hb)
                    have HP9n := Lib.hid (HP9.out.ext hb)
                    clear HP9
                    have HP9 := HP9n
                    clear HP9n
                    clear hb HL
                    have HL := HLn
                    clear HLn
                    refine wp_region_held_drew (S := (fun _ => True)) (by kernel_rfl) ?_ (fun hHeld => ?_)
                    · trivial
                    rw [← hWn]
                    clear hWn
                    obtain ⟨Wc, rfl⟩ : ∃ Wc, Wc = Wn := ⟨_, rfl⟩
                    refine wpAnyH_take (i := 0) (oi := ⟨some 78, _, _, _, _, _⟩) (v := ?_) rfl (by kernel_rfl) (by kernel_rfl) (by kernel_rfl) (fun _ _ _ h => h) (Or.inl ⟨by rfl, ?_⟩) (by assumption) ?_; rotate_left; focus (intro w hSw; (try dsimp only at hSw); first | (go_simp; done) | (go_simp; with_reducible rfl))
                    try simp only [Act.put]
                    try simp only [List.setIfInBounds_toArray]
                    try simp only [List.set_cons_succ, List.set_cons_zero]
                    refine wpAnyH_take (i := 2) (oi := ⟨some 80, _, _, _, _, _⟩) (v := ?_) rfl (by kernel_rfl) (by kernel_rfl) (by kernel_rfl) (fun _ _ _ h => h) (Or.inl ⟨by rfl, ?_⟩) (by assumption) ?_; rotate_left; focus (intro w hSw; (try dsimp only at hSw); first | (go_simp; done) | (go_simp; with_reducible rfl))
                    try simp only [Act.put]
                    try simp only [List.setIfInBounds_toArray]
                    try simp only [List.set_cons_succ, List.set_cons_zero]
                    refine wpAnyH_ready (rs := [1, 3]) (by kernel_rfl) (by simp) ?_
                    refine AllReadyH.cons (i := 1) (o := ⟨some 79, _, _, _, _, _⟩) rfl (fun K hK => ?_) ?_
                    · have b4 := HL.out.lb.cell 4
                      simp only [List.getElem?_toArray, List.getElem?_cons_zero, List.getElem?_cons_succ] at b4
                      go_simp
                      clear b4
                      refine hK.out _ _ ?_ (fun hHeld => ?_)
                      · trivial
                      try simp only [Act.put]
                      try simp only [List.setIfInBounds_toArray]
                      try simp only [List.set_cons_succ, List.set_cons_zero]
                      refine wpAnyH_ready (rs := [3]) (by kernel_rfl) (by simp) ?_
                      refine AllReadyH.cons (i := 3) (o := ⟨some 81, _, _, _, _, _⟩) rfl (fun K hK => ?_) ?_
                      · go_simp
                        have hR := record_any (fun g => (P g ∧ g ≠ w.heap.size + 1) ∧ g ≠ gl ∧ rowOf la lc ≠ some g) a9 c9 [(kText, strD x.text), (kRange, dR)] Wc (HL.out.px HP.out) HP9.out (by simp)
                        simp only [List.length_cons, List.length_nil, Nat.zero_add, Nat.reduceAdd] at hR
                        refine hR.mono ?_
                        clear hR
                        rintro e Wn ⟨dx, rfl, hvdx, hddx, hb⟩
                        have HVdx := Lib.hid hvdx
                        have HDdx := Lib.hid hddx
                        clear hvdx hddx
                        have HLn := Lib.hid (HL.out.ext hb)
                        have HP9n := Lib.hid (HP9.out.ext hb)
                        clear HP9
                        have HP9 := HP9n
                        clear HP9n
                        clear hb HL
                        have HL := HLn
                        clear HLn
                        obtain ⟨Wc, rfl⟩ : ∃ Wc, Wc = Wn := ⟨_, rfl⟩
                        refine hK.out _ _ ?_ (fun hHeld => ?_)
                        · trivial
                        try simp only [Act.put]
                        try simp only [List.setIfInBounds_toArray]
                        try simp only [List.set_cons_succ, List.set_cons_zero]
                        refine wpAnyH_ready (rs := [4]) (by kernel_rfl) (by simp) ?_
                        refine AllReadyH.cons (i := 4) (o := ⟨some 82, _, _, _, _, _⟩) rfl (fun K hK => ?_) ?_
                        · obtain ⟨gn, hgn⟩ : ∃ gn, gn = Wc.heap.size := ⟨_, rfl⟩
                          obtain ⟨Wn, hWn⟩ : ∃ Wn, Wn = Wc.alloc (.cells #[.int .i64 dx.sort, .bool dx.on, .int .i64 dx.n, .string ⟨dx.text.toArray⟩, .slice dx.a dx.list.length dx.c, .slice dx.ka dx.keys.length dx.kc] 36) := ⟨_, rfl⟩
                          have hb : Below Wc.heap.size Wc Wn := by rw [hWn]; exact below_a1 _ _
                          have HNX : Hid (Blk Wn gn #[.int .i64 dx.sort, .bool dx.on, .int .i64 dx.n, .string ⟨dx.text.toArray⟩, .slice dx.a dx.list.length dx.c, .slice dx.ka dx.keys.length dx.kc] 36) := Lib.hid (by rw [hWn, hgn]; exact Blk.new rfl)
                          have HLn := Lib.hid (HL.out.ext hb)
                          have HDdxn := Lib.hid (HDdx.out.ext hb)
                          clear HDdx
                          have HDdx := HDdxn
                          clear HDdxn
                          clear hb HL
                          have HL := HLn
                          clear HLn
                          go_simp
                          rw [← hWn, ← hgn]
                          clear hWn hgn
                          obtain ⟨Wc, rfl⟩ : ∃ Wc, Wc = Wn := ⟨_, rfl⟩
                          refine hK.out _ _ ?_ (fun hHeld => ?_)
                          · trivial
                          try simp only [Act.put]
                          try simp only [List.setIfInBounds_toArray]
                          try simp only [List.set_cons_succ, List.set_cons_zero]
                          refine wpAnyH_ready (rs := [5]) (by kernel_rfl) (by simp) ?_
                          refine AllReadyH.cons (i := 5) (o := ⟨some 83, _, _, _, _, _⟩) rfl (fun K hK => ?_) ?_
                          · refine step_append_Own (act := ⟨_, []⟩) rfl (.tmp 79) (.tmp 82) 34 rfl (w.heap.size + 2) 36 _ 6 88 Tryz.underlying34 Tryz.infoVal rfl (by decide) la acc.length lc _ (by simp [go_sem]) HL.out.lo (some ⟨gn, 0, none⟩) 1 1 dx.cells (by simp [go_sem]) (row_blk (by rw [val_arr]; exact HNX.out) dx.len) (by rw [val_list]; intro u hu; simp at hu; rcases hu with rfl | rfl | rfl | rfl | rfl | rfl <;> rfl) (by have := HAL.out; unfold maxLen; omega) (by have := HAL.out; omega) HL.out.pas.sz ?_
                            intro a5 c5 w5 ho5 hg5 hb5
                            simp only [Act.put, List.setIfInBounds_toArray, List.set_cons_succ, List.set_cons_zero]
                            have HM := Lib.hid (HL.out.more HDdx.out ho5 hg5 hb5)
                            have HLB := Lib.hid (HL.out.lb.grown hg5 (fun e => HL.out.lne e.symm))
                            clear ho5 hg5 hb5 HL
                            refine hK.out _ _ ?_ (fun hHeld => ?_)
                            · trivial
                            try simp only [Act.put]
                            try simp only [List.setIfInBounds_toArray]
                            try simp only [List.set_cons_succ, List.set_cons_zero]
                            refine wpAnyH_take (i := 6) (oi := ⟨some 84, _, _, _, _, _⟩) (v := ?_) rfl (by kernel_rfl) (by kernel_rfl) (by kernel_rfl) (fun _ _ _ h => h) (Or.inl ⟨by rfl, ?_⟩) (by assumption) ?_; rotate_left; focus (intro w hSw; (try dsimp only at hSw); first | (go_simp; done) | (go_simp; with_reducible rfl))
                            try simp only [Act.put]
                            try simp only [List.setIfInBounds_toArray]
                            try simp only [List.set_cons_succ, List.set_cons_zero]
                            refine wpAnyH_ready (rs := [7]) (by kernel_rfl) (by simp) ?_
                            refine AllReadyH.cons (i := 7) (o := ⟨none, _, _, _, _, _⟩) rfl (fun K hK => ?_) ?_
                            · have b4 := HLB.out.cell 4
                              have m4 := HLB.out.free 4
                              simp only [List.getElem?_toArray, List.getElem?_cons_zero, List.getElem?_cons_succ] at b4
                              go_simp
                              refine hK.out _ _ ?_ (fun hHeld => ?_)
                              · trivial
                              try simp only [Act.put]
                              try simp only [List.setIfInBounds_toArray]
                              try simp only [List.set_cons_succ, List.set_cons_zero]
                              refine wpAnyH_done (by kernel_rfl) ?_ _
                              clear hHeld
                              have hcl := HCL.out
                              go_wp2
                              go_roundw
                              case rel => exact ⟨k + 1, by omega, by go_num, Lib.hid ⟨a5, c5, acc ++ [dx], by rw [List.map_append, take_snoc1 HXE.out, List.map_append, HAC.out]; show _ ++ [dx.v] = _ ++ [editW x]; rw [HVdx.out]; show _ = _ ++ [editW x]; unfold editW; rw [← HWH.out]; show _ = _ ++ [recW [(kText, strW x.text), (kRange, _)]]; rw [← HVdS.out, ← HVdE.out]; exact congrArg (fun q => _ ++ [q]) (by show recW [(kText, strW x.text), (kRange, dR.v)] = _; rw [HVdR.out]; rfl), HM.out⟩⟩
                              case measure => simp [intOf]; omega
                            exact AllReadyH.nil
                          exact AllReadyH.nil
                        exact AllReadyH.nil
                      exact AllReadyH.nil
                    refine AllReadyH.cons (i := 3) (o := ⟨some 81, _, _, _, _, _⟩) rfl (fun K hK => ?_) ?_
                    · go_simp
                      have hR := record_any (fun g => (P g ∧ g ≠ w.heap.size + 1) ∧ g ≠ gl ∧ rowOf la lc ≠ some g) a9 c9 [(kText, strD x.text), (kRange, dR)] Wc (HL.out.px HP.out) HP9.out (by simp)
                      simp only [List.length_cons, List.length_nil, Nat.zero_add, Nat.reduceAdd] at hR
                      refine hR.mono ?_
                      clear hR
                      rintro e Wn ⟨dx, rfl, hvdx, hddx, hb⟩
                      have HVdx := Lib.hid hvdx
                      have HDdx := Lib.hid hddx
                      clear hvdx hddx
                      have HLn := Lib.hid (HL.out.ext hb)
                      have HP9n := Lib.hid (HP9.out.ext hb)
                      clear HP9
                      have HP9 := HP9n
                      clear HP9n
                      clear hb HL
                      have HL := HLn
                      clear HLn
                      obtain ⟨Wc, rfl⟩ : ∃ Wc, Wc = Wn := ⟨_, rfl⟩
                      refine hK.out _ _ ?_ (fun hHeld => ?_)
                      · trivial
                      try simp only [Act.put]
                      try simp only [List.setIfInBounds_toArray]
                      try simp only [List.set_cons_succ, List.set_cons_zero]
                      refine wpAnyH_ready (rs := [1, 4]) (by kernel_rfl) (by simp) ?_
                      refine AllReadyH.cons (i := 1) (o := ⟨some 79, _, _, _, _, _⟩) rfl (fun K hK => ?_) ?_
                      · have b4 := HL.out.lb.cell 4
                        simp only [List.getElem?_toArray, List.getElem?_cons_zero, List.getElem?_cons_succ] at b4
                        go_simp
                        clear b4
                        refine hK.out _ _ ?_ (fun hHeld => ?_)
                        · trivial
                        try simp only [Act.put]
                        try simp only [List.setIfInBounds_toArray]
                        try simp only [List.set_cons_succ, List.set_cons_zero]
                        refine wpAnyH_ready (rs := [4]) (by kernel_rfl) (by simp) ?_
                        refine AllReadyH.cons (i := 4) (o := ⟨some 82, _, _, _, _, _⟩) rfl (fun K hK => ?_) ?_
                        · obtain ⟨gn, hgn⟩ : ∃ gn, gn = Wc.heap.size := ⟨_, rfl⟩
                          obtain ⟨Wn, hWn⟩ : ∃ Wn, Wn = Wc.alloc (.cells #[.int .i64 dx.sort, .bool dx.on, .int .i64 dx.n, .string ⟨dx.text.toArray⟩, .slice dx.a dx.list.length dx.c, .slice dx.ka dx.keys.length dx.kc] 36) := ⟨_, rfl⟩
                          have hb : Below Wc.heap.size Wc Wn := by rw [hWn]; exact below_a1 _ _
                          have HNX : Hid (Blk Wn gn #[.int .i64 dx.sort, .bool dx.on, .int .i64 dx.n, .string ⟨dx.text.toArray⟩, .slice dx.a dx.list.length dx.c, .slice dx.ka dx.keys.length dx.kc] 36) := Lib.hid (by rw [hWn, hgn]; exact Blk.new rfl)
                          have HLn := Lib.hid (HL.out.ext hb)
                          have HDdxn := Lib.hid (HDdx.out.ext hb)
                          clear HDdx
                          have HDdx := HDdxn
                          clear HDdxn
                          clear hb HL
                          have HL := HLn
                          clear HLn
                          go_simp
                          rw [← hWn, ← hgn]
                          clear hWn hgn
                          obtain ⟨Wc, rfl⟩ : ∃ Wc, Wc = Wn := ⟨_, rfl⟩
                          refine hK.out _ _ ?_ (fun hHeld => ?_)
                          · trivial
                          try simp only [Act.put]
                          try simp only [List.setIfInBounds_toArray]
                          try simp only [List.set_cons_succ, List.set_cons_zero]
                          refine wpAnyH_ready (rs := [5]) (by kernel_rfl) (by simp) ?_
                          refine AllReadyH.cons (i := 5) (o := ⟨some 83, _, _, _, _, _⟩) rfl (fun K hK => ?_) ?_
                          · refine step_append_Own (act := ⟨_, []⟩) rfl (.tmp 79) (.tmp 82) 34 rfl (w.heap.size + 2) 36 _ 6 88 Tryz.underlying34 Tryz.infoVal rfl (by decide) la acc.length lc _ (by simp [go_sem]) HL.out.lo (some ⟨gn, 0, none⟩) 1 1 dx.cells (by simp [go_sem]) (row_blk (by rw [val_arr]; exact HNX.out) dx.len) (by rw [val_list]; intro u hu; simp at hu; rcases hu with rfl | rfl | rfl | rfl | rfl | rfl <;> rfl) (by have := HAL.out; unfold maxLen; omega) (by have := HAL.out; omega) HL.out.pas.sz ?_
                            intro a5 c5 w5 ho5 hg5 hb5
                            simp only [Act.put, List.setIfInBounds_toArray, List.set_cons_succ, List.set_cons_zero]
                            have HM := Lib.hid (HL.out.more HDdx.out ho5 hg5 hb5)
                            have HLB := Lib.hid (HL.out.lb.grown hg5 (fun e => HL.out.lne e.symm))
                            clear ho5 hg5 hb5 HL
                            refine hK.out _ _ ?_ (fun hHeld => ?_)
                            · trivial
                            try simp only [Act.put]
                            try simp only [List.setIfInBounds_toArray]
                            try simp only [List.set_cons_succ, List.set_cons_zero]
                            refine wpAnyH_take (i := 6) (oi := ⟨some 84, _, _, _, _, _⟩) (v := ?_) rfl (by kernel_rfl) (by kernel_rfl) (by kernel_rfl) (fun _ _ _ h => h) (Or.inl ⟨by rfl, ?_⟩) (by assumption) ?_; rotate_left; focus (intro w hSw; (try dsimp only at hSw); first | (go_simp; done) | (go_simp; with_reducible rfl))
                            try simp only [Act.put]
                            try simp only [List.setIfInBounds_toArray]
                            try simp only [List.set_cons_succ, List.set_cons_zero]
                            refine wpAnyH_ready (rs := [7]) (by kernel_rfl) (by simp) ?_
                            refine AllReadyH.cons (i := 7) (o := ⟨none, _, _, _, _, _⟩) rfl (fun K hK => ?_) ?_
                            · have b4 := HLB.out.cell 4
                              have m4 := HLB.out.free 4
                              simp only [List.getElem?_toArray, List.getElem?_cons_zero, List.getElem?_cons_succ] at b4
                              go_simp
                              refine hK.out _ _ ?_ (fun hHeld => ?_)
                              · trivial
                              try simp only [Act.put]
                              try simp only [List.setIfInBounds_toArray]
                              try simp only [List.set_cons_succ, List.set_cons_zero]
                              refine wpAnyH_done (by kernel_rfl) ?_ _
                              clear hHeld
                              have hcl := HCL.out
                              go_wp2
                              go_roundw
                              case rel => exact ⟨k + 1, by omega, by go_num, Lib.hid ⟨a5, c5, acc ++ [dx], by rw [List.map_append, take_snoc1 HXE.out, List.map_append, HAC.out]; show _ ++ [dx.v] = _ ++ [editW x]; rw [HVdx.out]; show _ = _ ++ [editW x]; unfold editW; rw [← HWH.out]; show _ = _ ++ [recW [(kText, strW x.text), (kRange, _)]]; rw [← HVdS.out, ← HVdE.out]; exact congrArg (fun q => _ ++ [q]) (by show recW [(kText, strW x.text), (kRange, dR.v)] = _; rw [HVdR.out]; rfl), HM.out⟩⟩
                              case measure => simp [intOf]; omega
                            exact AllReadyH.nil
                          exact AllReadyH.nil
                        exact AllReadyH.nil
                      refine AllReadyH.cons (i := 4) (o := ⟨some 82, _, _, _, _, _⟩) rfl (fun K hK => ?_) ?_
                      · obtain ⟨gn, hgn⟩ : ∃ gn, gn = Wc.heap.size := ⟨_, rfl⟩
                        obtain ⟨Wn, hWn⟩ : ∃ Wn, Wn = Wc.alloc (.cells #[.int .i64 dx.sort, .bool dx.on, .int .i64 dx.n, .string ⟨dx.text.toArray⟩, .slice dx.a dx.list.length dx.c, .slice dx.ka dx.keys.length dx.kc] 36) := ⟨_, rfl⟩
                        have hb : Below Wc.heap.size Wc Wn := by rw [hWn]; exact below_a1 _ _
                        have HNX : Hid (Blk Wn gn #[.int .i64 dx.sort, .bool dx.on, .int .i64 dx.n, .string ⟨dx.text.toArray⟩, .slice dx.a dx.list.length dx.c, .slice dx.ka dx.keys.length dx.kc] 36) := Lib.hid (by rw [hWn, hgn]; exact Blk.new rfl)
                        have HLn := Lib.hid (HL.out.ext hb)
                        have HDdxn := Lib.hid (HDdx.out.ext hb)
                        clear HDdx
                        have HDdx := HDdxn
                        clear HDdxn
                        clear hb HL
                        have HL := HLn
                        clear HLn
                        go_simp
                        rw [← hWn, ← hgn]
                        clear hWn hgn
                        obtain ⟨Wc, rfl⟩ : ∃ Wc, Wc = Wn := ⟨_, rfl⟩
                        refine hK.out _ _ ?_ (fun hHeld => ?_)
                        · trivial
                        try simp only [Act.put]
                        try simp only [List.setIfInBounds_toArray]
                        try simp only [List.set_cons_succ, List.set_cons_zero]
                        refine wpAnyH_ready (rs := [1]) (by kernel_rfl) (by simp) ?_
                        refine AllReadyH.cons (i := 1) (o := ⟨some 79, _, _, _, _, _⟩) rfl (fun K hK => ?_) ?_
                        · have b4 := HL.out.lb.cell 4
                          simp only [List.getElem?_toArray, List.getElem?_cons_zero, List.getElem?_cons_succ] at b4
                          go_simp
                          clear b4
                          refine hK.out _ _ ?_ (fun hHeld => ?_)
                          · trivial
                          try simp only [Act.put]
                          try simp only [List.setIfInBounds_toArray]
                          try simp only [List.set_cons_succ, List.set_cons_zero]
                          refine wpAnyH_ready (rs := [5]) (by kernel_rfl) (by simp) ?_
                          refine AllReadyH.cons (i := 5) (o := ⟨some 83, _, _, _, _, _⟩) rfl (fun K hK => ?_) ?_
                          · refine step_append_Own (act := ⟨_, []⟩) rfl (.tmp 79) (.tmp 82) 34 rfl (w.heap.size + 2) 36 _ 6 88 Tryz.underlying34 Tryz.infoVal rfl (by decide) la acc.length lc _ (by simp [go_sem]) HL.out.lo (some ⟨gn, 0, none⟩) 1 1 dx.cells (by simp [go_sem]) (row_blk (by rw [val_arr]; exact HNX.out) dx.len) (by rw [val_list]; intro u hu; simp at hu; rcases hu with rfl | rfl | rfl | rfl | rfl | rfl <;> rfl) (by have := HAL.out; unfold maxLen; omega) (by have := HAL.out; omega) HL.out.pas.sz ?_
                            intro a5 c5 w5 ho5 hg5 hb5
                            simp only [Act.put, List.setIfInBounds_toArray, List.set_cons_succ, List.set_cons_zero]
                            have HM := Lib.hid (HL.out.more HDdx.out ho5 hg5 hb5)
                            have HLB := Lib.hid (HL.out.lb.grown hg5 (fun e => HL.out.lne e.symm))
                            clear ho5 hg5 hb5 HL
                            refine hK.out _ _ ?_ (fun hHeld => ?_)
                            · trivial
                            try simp only [Act.put]
                            try simp only [List.setIfInBounds_toArray]
                            try simp only [List.set_cons_succ, List.set_cons_zero]
                            refine wpAnyH_take (i := 6) (oi := ⟨some 84, _, _, _, _, _⟩) (v := ?_) rfl (by kernel_rfl) (by kernel_rfl) (by kernel_rfl) (fun _ _ _ h => h) (Or.inl ⟨by rfl, ?_⟩) (by assumption) ?_; rotate_left; focus (intro w hSw; (try dsimp only at hSw); first | (go_simp; done) | (go_simp; with_reducible rfl))
                            try simp only [Act.put]
                            try simp only [List.setIfInBounds_toArray]
                            try simp only [List.set_cons_succ, List.set_cons_zero]
                            refine wpAnyH_ready (rs := [7]) (by kernel_rfl) (by simp) ?_
                            refine AllReadyH.cons (i := 7) (o := ⟨none, _, _, _, _, _⟩) rfl (fun K hK => ?_) ?_
                            · have b4 := HLB.out.cell 4
                              have m4 := HLB.out.free 4
                              simp only [List.getElem?_toArray, List.getElem?_cons_zero, List.getElem?_cons_succ] at b4
                              go_simp
                              refine hK.out _ _ ?_ (fun hHeld => ?_)
                              · trivial
                              try simp only [Act.put]
                              try simp only [List.setIfInBounds_toArray]
                              try simp only [List.set_cons_succ, List.set_cons_zero]
                              refine wpAnyH_done (by kernel_rfl) ?_ _
                              clear hHeld
                              have hcl := HCL.out
                              go_wp2
                              go_roundw
                              case rel => exact ⟨k + 1, by omega, by go_num, Lib.hid ⟨a5, c5, acc ++ [dx], by rw [List.map_append, take_snoc1 HXE.out, List.map_append, HAC.out]; show _ ++ [dx.v] = _ ++ [editW x]; rw [HVdx.out]; show _ = _ ++ [editW x]; unfold editW; rw [← HWH.out]; show _ = _ ++ [recW [(kText, strW x.text), (kRange, _)]]; rw [← HVdS.out, ← HVdE.out]; exact congrArg (fun q => _ ++ [q]) (by show recW [(kText, strW x.text), (kRange, dR.v)] = _; rw [HVdR.out]; rfl), HM.out⟩⟩
                              case measure => simp [intOf]; omega
                            exact AllReadyH.nil
                          exact AllReadyH.nil
                        exact AllReadyH.nil
                      exact AllReadyH.nil
                    exact AllReadyH.nil
                  exact AllReadyH.nil
                exact AllReadyH.nil
              exact AllReadyH.nil
            exact AllReadyH.nil
          exact AllReadyH.nil
        exact AllReadyH.nil
    · have hkc : k = cn := by omega
      have HKC : Hid (acc.map VD.v = c.changes.map editW) := Lib.hid (by rw [HAC.out, hkc, HCN.out, List.take_length])
      clear hkc HAC
      have HS := Lib.hid HL.out.pas
      have HPgd : Hid (PtsAt wr (fun g => P g ∧ g ≠ w.heap.size + 1) a7 [(kUri, strD nm), (kVersion, numD ver)]) := Lib.hid ⟨HL.out.od.row, fun p hp => by
        simp only [List.mem_cons, List.mem_nil_iff, or_false] at hp
        rcases hp with rfl | rfl
        · exact .leaf
        · exact .leaf⟩
      have hlo := HL.out.lo
      obtain ⟨ld, hld⟩ : ∃ ld, ld = (VD.mk 4 false 0 [] la lc acc none 0 []) := ⟨_, rfl⟩
      have HLD : Hid (ValAt wr (fun g => P g ∧ g ≠ w.heap.size + 1) ld) := Lib.hid (by
        rw [hld]
        exact .mk hlo.row (Row.nil _ _ _) (fun g _ hg => by have := hlo.base hg; exact ⟨HP.out g (by omega), by omega⟩) (fun _ h => by simp at h) (fun y hy => (HL.out.vals y hy).mono fun g h _ => h.1))
      have HLV : Hid (ld.v = listW (c.changes.map editW)) := Lib.hid (by rw [hld, VD.v_eq]; show V.mk 4 false 0 [] (acc.map VD.v) [] = _; rw [HKC.out]; rfl)
      have HLB : Hid (Blk wr gl #[.int .i64 ld.sort, .bool ld.on, .int .i64 ld.n, .string ⟨ld.text.toArray⟩, .slice ld.a ld.list.length ld.c, .slice ld.ka ld.keys.length ld.kc] 36) := Lib.hid (by rw [hld]; exact HL.out.lb)
      clear hlo hld HL HKC
      obtain ⟨b0, b1, b2, b3, b4, b5⟩ := HLB.out.sixT
      go_upto_region 19 with (fail)
      obtain ⟨gm, hgm⟩ : ∃ gm, gm = wr.heap.size := ⟨_, rfl⟩
      obtain ⟨w8, hw8⟩ : ∃ w8, w8 = wr.alloc (.cells ([(kChanges, ld)].flatMap ptC).toArray 74) := ⟨_, rfl⟩
      have hb : Below wr.heap.size wr w8 := by rw [hw8]; exact below_a1 _ _
      have HPgm : Hid (PtsAt w8 (fun g => P g ∧ g ≠ w.heap.size + 1) (some ⟨gm, 0, none⟩) [(kChanges, ld)]) := Lib.hid ⟨by rw [hw8, hgm]; exact row_blk (Blk.new rfl) (flat_length ptC 7 ptC_len _), fun p hp => by
        simp only [List.mem_cons, List.mem_nil_iff, or_false] at hp
        rcases hp with rfl
        exact HLD.out.ext hb⟩
      have HOgm : Hid (Own w8 (w.heap.size + 2) 74 7 (some ⟨gm, 0, none⟩) [(kChanges, ld)].length [(kChanges, ld)].length ([(kChanges, ld)].flatMap ptC)) := Lib.hid (by have := HS.out.sz; rw [hw8, hgm]; exact own_blk (cs := ([(kChanges, ld)].flatMap ptC).toArray) (Blk.new rfl) (by omega) (by rw [List.size_toArray]; exact flat_length ptC 7 ptC_len _) (by simp [maxLen]))
      have HSn := Lib.hid (HS.out.ext hb)
      have HPgdn := Lib.hid (HPgd.out.ext hb)
      clear HPgd
      have HPgd := HPgdn
      clear HPgdn
      clear hb HS
      have HS := HSn
      clear HSn
      simp only [List.flatMap_cons, List.flatMap_nil] at hw8
      try simp only [ptC_str] at hw8
      try simp only [ptC_num] at hw8
      try simp only [ptC_of] at hw8
      try simp only [List.cons_append, List.nil_append] at hw8
      simp only [List.append_nil, kChanges] at hw8
      go_upto_region 22 with (fail)
      rw [← hw8, ← hgm]
      clear hw8 hgm b0 b1 b2 b3 b4 b5
      go_wp2_with fail
      have hR := record_any (fun g => P g ∧ g ≠ w.heap.size + 1) a7 c7 [(kUri, strD nm), (kVersion, numD ver)] w8 (HPP.out _ HS.out.sz) HPgd.out (by simp)
      simp only [List.length_cons, List.length_nil, Nat.zero_add, Nat.reduceAdd] at hR
      refine hR.mono ?_
      clear hR
      rintro e wr ⟨d1, rfl, hvd1, hdd1, hb⟩
      have HVd1 := Lib.hid hvd1
      have HDd1 := Lib.hid hdd1
      clear hvd1 hdd1
      have HSn := Lib.hid (HS.out.ext hb)
      have HPgmn := Lib.hid (HPgm.out.ext hb)
      clear HPgm
      have HPgm := HPgmn
      clear HPgmn
      clear hb HS
      have HS := HSn
      clear HSn
      go_wp2_with (at_builtin; refine wpList_append_Own rfl _ _ 75 rfl (w.heap.size + 2) 74 _ 7 104 Tryz.underlying75 Tryz.infoPart rfl (by decide) _ 1 1 [.string ⟨kDoc.toArray⟩, .int .i64 d1.sort, .bool d1.on, .int .i64 d1.n, .string ⟨d1.text.toArray⟩, .slice d1.a d1.list.length d1.c, .slice d1.ka d1.keys.length d1.kc] rfl (by exact own_blk (cs := #[.string ⟨kDoc.toArray⟩, .int .i64 d1.sort, .bool d1.on, .int .i64 d1.n, .string ⟨d1.text.toArray⟩, .slice d1.a d1.list.length d1.c, .slice d1.ka d1.keys.length d1.kc]) (Blk.new rfl) HS.out.sz rfl (by simp [maxLen])) (some ⟨gm, 0, none⟩) 1 1 ([(kChanges, ld)].flatMap ptC) rfl (HPgm.out.row.ext (below_a1 _ _)) ptC_one (by simp [maxLen]) (by simp) (by have := HS.out.sz; simp; omega) ?_; intro a5 c5 w5 ho5 hg5 hb5)
      have hb : Below wr.heap.size wr w5 := (below_a1 wr _).grown hg5 (by simp) (fun k hk => by simp [rowOf, blockOf] at hk; omega)
      have HR5 : Hid (Row w5 7 a5 ((kDoc, d1) :: [(kChanges, ld)]).length (((kDoc, d1) :: [(kChanges, ld)]).flatMap ptC)) := Lib.hid (by rw [List.flatMap_cons, ptC_of]; exact ho5.row)
      clear ho5 hg5 hb5
      have HSn := Lib.hid (HS.out.ext hb)
      have HDd1n := Lib.hid (HDd1.out.ext hb)
      clear HDd1
      have HDd1 := HDd1n
      clear HDd1n
      have HPgmn := Lib.hid (HPgm.out.ext hb)
      clear HPgm
      have HPgm := HPgmn
      clear HPgmn
      clear hb HS
      have HS := HSn
      clear HSn
      have HP5 : Hid (PtsAt w5 (fun g => P g ∧ g ≠ w.heap.size + 1) a5 ((kDoc, d1) :: [(kChanges, ld)])) := Lib.hid ⟨HR5.out, fun p hp => by
        rcases List.mem_cons.1 hp with rfl | hp
        · exact HDd1.out
        · exact HPgm.out.vals p hp⟩
      try simp only [Nat.reduceAdd]
      have hR := record_any (fun g => P g ∧ g ≠ w.heap.size + 1) a5 c5 ((kDoc, d1) :: [(kChanges, ld)]) w5 (HPP.out _ HS.out.sz) HP5.out (by simp)
      simp only [List.length_cons, List.length_nil, Nat.zero_add, Nat.reduceAdd] at hR
      refine hR.mono ?_
      clear hR
      rintro e wy ⟨d2, rfl, hvd2, hdd2, hb⟩
      have HVd2 := Lib.hid hvd2
      have HDd2 := Lib.hid hdd2
      clear hvd2 hdd2
      have HSn := Lib.hid (HS.out.ext hb)
      clear hb HS
      have HS := HSn
      clear HSn
      have f0 := HS.out.rblk.free 0
      have f1 := HS.out.rblk.free 1
      have f2 := HS.out.rblk.free 2
      have f3 := HS.out.rblk.free 3
      have f4 := HS.out.rblk.free 4
      have f5 := HS.out.rblk.free 5
      obtain ⟨z0, z1, z2, z3, z4, z5⟩ := HS.out.rblk.sixT
      go_wp2
      refine params_end (g := w.heap.size + 1) rfl (store6 HS.out.rblk) ?_
      refine docS (P := P) (o := 0) ?_ HDd2.out (fun g h => ⟨h.2, h.1⟩) HS.out.below (by omega)
      rw [HVd2.out, paramsW_5 _ (by show c.kind.toNat = 5; rw [HK.out]; rfl)]
      show recW [(kDoc, d1.v), (kChanges, ld.v)] = _
      rw [HVd1.out, HLV.out, HNM.out, HVER.out]
      rfl
end Go.Proofs.YthnbeebilomchaaGreatDoor

namespace Go.Proofs.YthnbeebilomchaaGreatDoor
open Go Go.RowKit

theorem params_any (P : Nat → Prop) (c : CD) (w : World) (hP : ∀ g, w.heap.size ≤ g → P g) (h4 : 4 ≤ c.kind) (h9 : c.kind ≤ 9) (hc : ValAt w P c.other) (hrow : Row w 6 c.a c.changes.length (c.changes.flatMap E.cells)) (hn : c.changes.length ≤ 1048576) :
    Calls Tryz.prog 31 #[.agg (cdC c)] w (DocP w P (paramsW c.k)) := by
  rcases (show c.kind = 4 ∨ c.kind = 5 ∨ c.kind = 6 ∨ c.kind = 7 ∨ c.kind = 8 ∨ c.kind = 9 by omega) with h | h | h | h | h | h
  · exact params_4 P c w hP h hc
  · exact params_5 P c w hP h hc hrow hn
  · exact params_6 P c w hP h hc
  · exact params_7 P c w hP h hc
  · exact params_8 P c w hP h hc
  · exact params_9 P c w hP h hc
theorem same_k {a b : CD} (ha : 0 ≤ a.kind) (hb : 0 ≤ b.kind) : SameP a b ↔ a.k = b.k := by
  unfold SameP CD.k
  rw [C.mk.injEq]
  have e : a.kind.toNat = b.kind.toNat ↔ a.kind = b.kind := by omega
  rw [e]
  constructor
  · rintro ⟨h1, h2, h3, h4, h5, h6, ⟨h7, h8⟩, h9⟩; exact ⟨h1, h2, h3, h4, h5, h6, h7, h8, h9⟩
  · rintro ⟨h1, h2, h3, h4, h5, h6, h7, h8, h9⟩; exact ⟨h1, h2, h3, h4, h5, h6, ⟨h7, h8⟩, h9⟩
/-- a call is one that is written -/
def wrOk (c : CD) : Prop := 1 ≤ c.kind ∧ c.kind ≤ 9 ∧ readC (msgW c.k) = (0, c.k)
/-- what a call is written to -/
def WriE (w : World) (c : CD) (e : Ending) (w' : World) : Prop := ∃ (d : VD) (n : Int), e = .returned (.tuple #[.agg #[.int .i64 d.sort, .bool d.on, .int .i64 d.n, .string ⟨d.text.toArray⟩, .slice d.a d.list.length d.c, .slice d.ka d.keys.length d.kc], .int .i64 n]) ∧ (wrOk c → n = 0 ∧ d.v = msgW c.k) ∧ (¬ wrOk c → n = 42 ∧ d.v = .null) ∧ ValAt w' (fun _ => True) d ∧ Below w.heap.size w w'
theorem null_size (v : V) : sizeV V.null ≤ sizeV v := by cases v; simp [V.null, sizeV, sizesV]; omega
theorem getD_size (v : V) (p : List Nm) : sizeV ((getV v p).getD .null) ≤ sizeV v := by
  cases h : getV v p with
  | none => exact null_size v
  | some y => exact getV_size p h
theorem chsL_len : ∀ {l : List V} {m : List E}, chsL l = some m → m.length = l.length
  | [], m, h => by rw [chsL] at h; cases h; rfl
  | v :: l, m, h => by
    rw [chsL] at h
    cases ha : chL v with
    | none => rw [ha] at h; cases h
    | some e =>
      rw [ha, Option.bind_some] at h
      cases hb : chsL l with
      | none => rw [hb] at h; cases h
      | some m' => rw [hb] at h; cases h; simp [chsL_len hb]
/-- what a message is read to is no greater than it -/
theorem tell_size {k : Nat} {x p : V} {y : C} (h : tellL k x p = some y) : y.id = x ∧ sizeV y.other ≤ sizeV p ∧ y.changes.length ≤ sizeV p := by
  refine ⟨(tell_kind h).2, ?_⟩
  have hz : sizeV V.null ≤ sizeV p := null_size p
  have h0 : ([] : List E).length ≤ sizeV p := Nat.zero_le _
  unfold tellL at h
  split at h
  · cases h; exact ⟨hz, h0⟩
  split at h
  · split at h
    · rename_i y' hy
      split at h
      · cases h; exact ⟨getV_size _ hy, h0⟩
      · cases h
    · cases h
  cases hn : gText p [kDoc, kUri] with
  | none => rw [hn] at h; cases h
  | some name =>
    rw [hn, Option.bind_some] at h
    split at h
    · cases ha : gNum p [kDoc, kVersion] with
      | none => rw [ha] at h; cases h
      | some a =>
        rw [ha, Option.bind_some] at h
        cases hb : gText p [kDoc, kText] with
        | none => rw [hb] at h; cases h
        | some b => rw [hb] at h; cases h; exact ⟨hz, h0⟩
    split at h
    · cases ha : gNum p [kDoc, kVersion] with
      | none => rw [ha] at h; cases h
      | some a =>
        rw [ha, Option.bind_some, gList_S] at h
        cases hg : getS p 4 [kChanges] with
        | none => rw [hg] at h; cases h
        | some z =>
          rw [hg, Option.map_some, Option.bind_some] at h
          cases hb : chsL z.list with
          | none => rw [hb] at h; cases h
          | some b =>
            rw [hb] at h; cases h
            refine ⟨hz, ?_⟩
            show b.length ≤ _
            rw [chsL_len hb]
            have h1 := list_len z
            have h2 := getS_size (v := p) (s := 4) (p := [kChanges])
            rw [hg] at h2
            exact Nat.le_trans h1 h2
    split at h
    · cases ha : gPlace p [kPosition] with
      | none => rw [ha] at h; cases h
      | some a => rw [ha] at h; cases h; exact ⟨hz, h0⟩
    · cases h; exact ⟨hz, h0⟩
theorem readC_size {v : V} {y : C} (h : readC v = (0, y)) : sizeV y.id ≤ sizeV v ∧ sizeV y.other ≤ sizeV v ∧ y.changes.length ≤ sizeV v := by
  unfold readC at h
  split at h
  · split at h
    · cases h
    · split at h
      · cases h
      · split at h
        · cases h
        · split at h
          · cases h
          · rename_i c' ht
            cases h
            obtain ⟨h1, h2, h3⟩ := tell_size ht
            have hp := getD_size v [kParams]
            exact ⟨by rw [h1]; exact getD_size v [kId], Nat.le_trans h2 hp, Nat.le_trans h3 hp⟩
  · cases h
/-- what stands between two steps -/
structure WrS (w : World) (c : CD) (W : World) : Prop where
  below : Below w.heap.size w W
  cblk : Blk W w.heap.size (cdC c) 43
  rblk : Blk W (w.heap.size + 1) #[.int .i64 0, .bool false, .int .i64 0, .string { data := #[] }, .slice none 0 0, .slice none 0 0] 36
  cat : CallP W (fun g => g < w.heap.size) c
theorem WrS.ext {w : World} {c : CD} {W W' : World} (h : WrS w c W) (hb : Below W.heap.size W W') : WrS w c W' := ⟨h.below.trans (hb.mono h.below.size), h.cblk.ext hb, h.rblk.ext hb, ⟨h.cat.id.ext hb, h.cat.other.ext hb, h.cat.row.ext hb, h.cat.blk⟩⟩
theorem WrS.grow {w : World} {c : CD} {W W' : World} (h : WrS w c W) {row : Option Nat} (hg : W.grownBy W' row) (hr : ∀ k, row = some k → w.heap.size + 2 ≤ k) : WrS w c W' := by
  have hlo : ∀ k, k < w.heap.size + 2 → some k ≠ row := fun k hk e => by have := hr k e.symm; omega
  exact ⟨⟨hg.os.trans h.below.os, hg.tape.trans h.below.tape, hg.output.trans h.below.output, Nat.le_trans h.below.size hg.size, fun k hk => (hg.block k (by have := h.below.size; omega) (hlo k (by omega))).trans (h.below.block k hk)⟩, h.cblk.grown hg (hlo _ (by omega)), h.rblk.grown hg (hlo _ (by omega)),
    ⟨h.cat.id.congr fun g h1 h2 => hg.block g h2 (hlo g (by omega)), h.cat.other.congr fun g h1 h2 => hg.block g h2 (hlo g (by omega)), h.cat.row.congr fun g h0 h1 h2 => hg.block g h2 (hlo g (by have := h.cat.blk g (Nat.pos_of_mul_pos_right h0) h1; omega)), h.cat.blk⟩⟩
theorem WrS.sz {w : World} {c : CD} {W : World} (h : WrS w c W) : w.heap.size + 2 ≤ W.heap.size := h.rblk.lt
/-- a message's members -/
def msgL (c : C) : List (Nm × V) := (kJson, strW v20) :: ((if c.id.sort = 0 then [] else [(kId, c.id)]) ++ (kMethod, strW (methodN c.kind)) :: if 3 < c.kind then [(kParams, paramsW c)] else [])
theorem msg_map {c : CD} {L1 L : List Pt} {mn : Nm} {kd : Int} (h1 : L1 = (kJson, strD v20) :: (if c.id.sort = 0 then [] else [(kId, c.id)])) (hm : mn = methodN kd.toNat) (hk : kd = c.kind) (h : L.map (fun p => (p.1, p.2.v)) = if 3 < c.kind then [(kParams, paramsW c.k)] else []) :
    ((L1 ++ [(kMethod, strD mn)]) ++ L).map (fun p => (p.1, p.2.v)) = msgL c.k := by
  rw [List.map_append, h, h1, hm, hk]
  have e : (3 < c.kind) = (3 < c.k.kind) := by unfold CD.k; simp only [eq_iff_iff]; omega
  have e2 : (c.id.sort = 0) = (c.k.id.sort = 0) := by unfold CD.k; cases hd : c.id; rfl
  simp only [e, e2]
  unfold msgL
  split <;> split <;> rfl
theorem msg_vals {W : World} {P : Nat → Prop} {c : CD} {L1 : List Pt} {mn : Nm} (h1 : L1 = (kJson, strD v20) :: (if c.id.sort = 0 then [] else [(kId, c.id)])) (h : ValAt W P c.id) : ∀ p ∈ L1 ++ [(kMethod, strD mn)], ValAt W P p.2 := by
  intro p hp
  rw [h1] at hp
  split at hp
  · simp only [List.cons_append, List.nil_append, List.mem_cons, List.mem_nil_iff, or_false] at hp
    rcases hp with rfl | rfl
    · exact .leaf
    · exact .leaf
  · simp only [List.cons_append, List.nil_append, List.mem_cons, List.mem_nil_iff, or_false] at hp
    rcases hp with rfl | rfl | rfl
    · exact .leaf
    · exact h
    · exact .leaf
theorem msg_len {c : C} {L : List Pt} (h : L.map (fun p => (p.1, p.2.v)) = msgL c) : L.length ≤ 1000 := by
  have := congrArg List.length h
  rw [List.length_map] at this
  rw [this]
  unfold msgL
  split <;> split <;> simp
theorem load_call_g {ops : Array Oper} {rest : List Oper} {o : Oper} {a : Act} {w : World} {Q : Exit → Act → World → Prop} (hw : Region.wanted o (yielded ops a.tmps) = true) (x : Operand) (ho : o.op = .load 43 x) (g : Nat) (hx : a.eval x = .pointer (some ⟨g, 0, none⟩)) (c : CD) (hg : Blk w g (cdC c) 43)
    (h : wpList Tryz.prog ops Q rest (a.put o.dst (.agg (cdC c))) w) : wpList Tryz.prog ops Q (o :: rest) a w := by
  obtain ⟨fs, h1⟩ := call_under
  exact wpList_step fun K hK => by rw [if_pos hw]; exact wp_load_row _ x ho g hx _ _ _ _ hg h1 rfl call_size (hK _ _ h)
theorem index_method_at (k : Int) (h1 : 1 ≤ k) (h9 : k ≤ 9) (w : World) : Sem.run Tryz.prog (Instr.index 76 (.agg #[.string { data := #[] }, .string { data := #[105, 110, 105, 116, 105, 97, 108, 105, 122, 101] }, .string { data := #[115, 104, 117, 116, 100, 111, 119, 110] }, .string { data := #[101, 120, 105, 116] }, .string { data := #[116, 101, 120, 116, 68, 111, 99, 117, 109, 101, 110, 116, 47, 100, 105, 100, 79, 112, 101, 110] }, .string { data := #[116, 101, 120, 116, 68, 111, 99, 117, 109, 101, 110, 116, 47, 100, 105, 100, 67, 104, 97, 110, 103, 101] }, .string { data := #[116, 101, 120, 116, 68, 111, 99, 117, 109, 101, 110, 116, 47, 100, 105, 100, 67, 108, 111, 115, 101] }, .string { data := #[116, 101, 120, 116, 68, 111, 99, 117, 109, 101, 110, 116, 47, 104, 111, 118, 101, 114] }, .string { data := #[116, 101, 120, 116, 68, 111, 99, 117, 109, 101, 110, 116, 47, 100, 105, 97, 103, 110, 111, 115, 116, 105, 99] }, .string { data := #[36, 47, 99, 97, 110, 99, 101, 108, 82, 101, 113, 117, 101, 115, 116] }]) (.int .i64 k)) w = .ok (.string ⟨(methodN k.toNat).toArray⟩) w := by
  rcases (show k = 1 ∨ k = 2 ∨ k = 3 ∨ k = 4 ∨ k = 5 ∨ k = 6 ∨ k = 7 ∨ k = 8 ∨ k = 9 by omega) with rfl | rfl | rfl | rfl | rfl | rfl | rfl | rfl | rfl <;> kernel_rfl
theorem write_end {W : World} {tm : Array Value} {R : Ending → World → Prop} {g : Nat} {u0 u1 u2 u3 u4 u5 : Value} (h2 : tm.getD 2 undef = .pointer (some ⟨g, 0, none⟩)) {q : Int} (h3 : tm.getD 3 undef = .int .i64 q) (hB : Blk W g #[u0, u1, u2, u3, u4, u5] 36)
    (hR : R (.returned (.tuple #[.agg #[u0, u1, u2, u3, u4, u5], .int .i64 q])) W) : bodyPost Tryz.prog Tryz.f8 R .ret { tmps := tm, defers := [] } W := by
  have d0 := hB.cell 0
  have d1 := hB.cell 1
  have d2 := hB.cell 2
  have d3 := hB.cell 3
  have d4 := hB.cell 4
  have d5 := hB.cell 5
  simp only [List.getElem?_toArray, List.getElem?_cons_zero, List.getElem?_cons_succ] at d0 d1 d2 d3 d4 d5
  rw [Array.getD_eq_getD_getElem?] at h2 h3
  refine bodyPost_ret (v := .tuple #[.agg #[u0, u1, u2, u3, u4, u5], .int .i64 q]) ?_ rfl hR
  simp [results, Tryz.results8, go_sem, h2, h3, d0, d1, d2, d3, d4, d5]
theorem WrS.none {w : World} {c : CD} {W : World} (h : WrS w c W) (hn : ¬ wrOk c) : WriE w c (.returned (.tuple #[.agg #[.int .i64 0, .bool false, .int .i64 0, .string { data := #[] }, .slice none 0 0, .slice none 0 0], .int .i64 42])) (put6 W (w.heap.size + 1) 0 (.int .i64 0) (.bool false) (.int .i64 0) (.string { data := #[] }) (.slice none 0 0) (.slice none 0 0)) :=
  ⟨zeroD, 42, rfl, fun h => absurd h hn, fun _ => ⟨rfl, rfl⟩, .leaf, put6_below h.below (by omega)⟩
set_option maxHeartbeats 4000000 in
set_option maxRecDepth 20000 in
theorem write_call (c : CD) (w : World) (hc : CallAt w c) (hs : sizeV (msgW c.k) ≤ 1048576) (hs1 : sizeV c.id.v ≤ 1048576) (hs2 : sizeV c.other.v ≤ 1048576) (hn : c.changes.length ≤ 1048576) : Calls Tryz.prog 8 #[.agg (cdC c)] w (WriE w c) := by
  obtain ⟨W0, hW0⟩ : ∃ W0, W0 = (w.alloc (.cells (cdC c) 43)).alloc (.cells #[.int .i64 0, .bool false, .int .i64 0, .string { data := #[] }, .slice none 0 0, .slice none 0 0] 36) := ⟨_, rfl⟩
  have hb0 : Below w.heap.size w W0 := by rw [hW0]; exact (below_a1 w _).alloc (by simp) _
  have hcp : CallP w (fun g => g < w.heap.size) c := ⟨hc.id.mono fun _ _ h => h, hc.other.mono fun _ _ h => h, hc.row, fun g h1 h2 => hc.row.lt (by omega) h2⟩
  have HS : Hid (WrS w c W0) := Lib.hid ⟨hb0, by rw [hW0]; exact (Blk.new rfl).alloc _, by rw [hW0]; exact Blk.new (by simp), ⟨hcp.id.ext hb0, hcp.other.ext hb0, hcp.row.ext hb0, hcp.blk⟩⟩
  have HSM := Lib.hid hs
  have HSI := Lib.hid hs1
  have HSO := Lib.hid hs2
  have HNC := Lib.hid hn
  clear hc hcp hs hs1 hs2 hn hb0
  go_enter Tryz.func8, Tryz.ntmps8
  go_upto_region 1 with (fail)
  rw [← hW0]
  clear hW0
  obtain ⟨kd, hkd⟩ : ∃ q, q = c.kind := ⟨_, rfl⟩
  have c0 : W0.cell? ⟨w.heap.size, 0, none⟩ = some (.int .i64 kd) := by rw [hkd]; exact HS.out.cblk.cell 0
  have HKD := Lib.hid hkd
  clear hkd
  by_cases hr : 1 ≤ kd
  case neg =>
    have d1 : decide (kd ≤ 0) = true := by simp; omega
    have HN : Hid (¬ wrOk c) := Lib.hid (fun h => by have := h.1; rw [← HKD.out] at this; exact hr this)
    have f0 := HS.out.rblk.free 0
    have f1 := HS.out.rblk.free 1
    have f2 := HS.out.rblk.free 2
    have f3 := HS.out.rblk.free 3
    have f4 := HS.out.rblk.free 4
    have f5 := HS.out.rblk.free 5
    obtain ⟨z0, z1, z2, z3, z4, z5⟩ := HS.out.rblk.sixT
    clear hr
    go_wp2
    exact write_end (g := w.heap.size + 1) rfl rfl (store6 HS.out.rblk) (HS.out.none HN.out)
  by_cases hr2 : kd ≤ 9
  case neg =>
    have d1 : decide (kd ≤ 0) = false := by simp; omega
    have d2 : decide (10 ≤ kd) = true := by simp; omega
    have HN : Hid (¬ wrOk c) := Lib.hid (fun h => by have := h.2.1; rw [← HKD.out] at this; exact hr2 this)
    have f0 := HS.out.rblk.free 0
    have f1 := HS.out.rblk.free 1
    have f2 := HS.out.rblk.free 2
    have f3 := HS.out.rblk.free 3
    have f4 := HS.out.rblk.free 4
    have f5 := HS.out.rblk.free 5
    obtain ⟨z0, z1, z2, z3, z4, z5⟩ := HS.out.rblk.sixT
    clear hr hr2
    go_wp2
    exact write_end (g := w.heap.size + 1) rfl rfl (store6 HS.out.rblk) (HS.out.none HN.out)
  have d1 : decide (kd ≤ 0) = false := by simp; omega
  have d2 : decide (10 ≤ kd) = false := by simp; omega
  have HRG := Lib.hid (And.intro hr hr2)
  clear hr hr2
  go_wp2_with fail
  clear d1 d2 c0
  refine (str_any v20 W0).mono ?_
  rintro e w1 ⟨rfl, hb⟩
  have HSn := Lib.hid (HS.out.ext hb)
  clear hb HS
  have HS := HSn
  clear HSn
  obtain ⟨g0, hg0⟩ : ∃ g0, g0 = w1.heap.size := ⟨_, rfl⟩
  obtain ⟨w2, hw2⟩ : ∃ w2, w2 = w1.alloc (.cells ([(kJson, strD v20)].flatMap ptC).toArray 74) := ⟨_, rfl⟩
  have hb : Below w1.heap.size w1 w2 := by rw [hw2]; exact below_a1 _ _
  have HPg0 : Hid (PtsAt w2 (fun g => g ≠ w.heap.size + 1) (some ⟨g0, 0, none⟩) [(kJson, strD v20)]) := Lib.hid ⟨by rw [hw2, hg0]; exact row_blk (Blk.new rfl) (flat_length ptC 7 ptC_len _), fun p hp => by
    simp only [List.mem_cons, List.mem_nil_iff, or_false] at hp
    rcases hp with rfl
    exact .leaf⟩
  have HOg0 : Hid (Own w2 (w.heap.size + 2) 74 7 (some ⟨g0, 0, none⟩) [(kJson, strD v20)].length [(kJson, strD v20)].length ([(kJson, strD v20)].flatMap ptC)) := Lib.hid (by have := HS.out.sz; rw [hw2, hg0]; exact own_blk (cs := ([(kJson, strD v20)].flatMap ptC).toArray) (Blk.new rfl) (by omega) (by rw [List.size_toArray]; exact flat_length ptC 7 ptC_len _) (by simp [maxLen]))
  have HSn := Lib.hid (HS.out.ext hb)
  clear hb HS
  have HS := HSn
  clear HSn
  simp only [List.flatMap_cons, List.flatMap_nil] at hw2
  try simp only [ptC_str] at hw2
  try simp only [ptC_num] at hw2
  try simp only [ptC_of] at hw2
  try simp only [List.cons_append, List.nil_append] at hw2
  simp only [List.append_nil, kJson] at hw2
  have c1 := HS.out.cblk.cell 1
  unfold cdC at c1
  simp only [List.getElem?_toArray, List.getElem?_cons_zero, List.getElem?_cons_succ] at c1
  rw [hw2] at c1
  go_upto_if 23 with (fail)
  rw [← hw2, ← hg0]
  clear hw2 hg0 c1
  obtain ⟨L1, hL1⟩ : ∃ L : List Pt, L = (kJson, strD v20) :: (if c.id.sort = 0 then [] else [(kId, c.id)]) := ⟨_, rfl⟩
  have HL1 := Lib.hid hL1
  clear hL1
  go_cut [4] from 23 to 29 (fun l W => ∃ a n, l = .slice a L1.length n ∧ Hid (Own W (w.heap.size + 2) 74 7 a L1.length n (L1.flatMap ptC)) ∧ Hid (WrS w c W))
  case first =>
    by_cases hz : c.id.sort = 0
    case pos =>
      have hzb : (c.id.sort != 0) = false := by simpa using hz
      have HLE : Hid (L1 = [(kJson, strD v20)]) := Lib.hid (by rw [HL1.out, if_pos hz])
      clear hz
      go_wp2
      go_meet
      exact ⟨some ⟨g0, 0, none⟩, 1, by rw [HLE.out]; rfl, Lib.hid (by rw [HLE.out]; exact HOg0.out), HS⟩
    case neg =>
      have hzb : (c.id.sort != 0) = true := by simpa using hz
      have HLE : Hid (L1 = [(kJson, strD v20), (kId, c.id)]) := Lib.hid (by rw [HL1.out, if_neg hz])
      clear hz
      have c1 := HS.out.cblk.cell 1
      have c2 := HS.out.cblk.cell 2
      have c3 := HS.out.cblk.cell 3
      have c4 := HS.out.cblk.cell 4
      have c5 := HS.out.cblk.cell 5
      have c6 := HS.out.cblk.cell 6
      unfold cdC at c1 c2 c3 c4 c5 c6
      simp only [List.getElem?_toArray, List.getElem?_cons_zero, List.getElem?_cons_succ] at c1 c2 c3 c4 c5 c6
      go_wp2_with (at_builtin; refine wpList_append_Own rfl _ _ 75 rfl (w.heap.size + 2) 74 _ 7 104 Tryz.underlying75 Tryz.infoPart rfl (by decide) (some ⟨g0, 0, none⟩) 1 1 _ rfl (HOg0.out.alloc _) _ 1 1 [.string ⟨kId.toArray⟩, .int .i64 c.id.sort, .bool c.id.on, .int .i64 c.id.n, .string ⟨c.id.text.toArray⟩, .slice c.id.a c.id.list.length c.id.c, .slice c.id.ka c.id.keys.length c.id.kc] rfl (Row.new1 (by simp) rfl rfl) (by intro u hu; simp at hu; rcases hu with rfl | rfl | rfl | rfl | rfl | rfl | rfl <;> rfl) (by simp [maxLen]) (by simp) (by have := HS.out.sz; simp; omega) ?_; intro a7 c7 w4 ho7 hg7 hb7)
      have HSn := Lib.hid ((HS.out.ext (below_a1 _ _)).grow hg7 (HOg0.out.rowBase (Nat.le_refl _)))
      have HO7 : Hid (Own w4 (w.heap.size + 2) 74 7 a7 L1.length c7 (L1.flatMap ptC)) := Lib.hid (by rw [HLE.out]; simp only [List.flatMap_cons, List.flatMap_nil, ptC_of, List.append_nil]; exact ho7)
      clear HS ho7 hg7 hb7 c1 c2 c3 c4 c5 c6
      go_meet
      exact ⟨a7, c7, by rw [HLE.out]; rfl, HO7, HSn⟩
  case rest =>
    obtain ⟨a1, n1, rfl, HO1, HS1⟩ := hcut
    clear HS HPg0 HOg0
    have HS := HS1
    clear HS1
    have HKS : Hid (∀ W, WrS w c W → W.cell? ⟨w.heap.size, 0, none⟩ = some (.int .i64 kd)) := Lib.hid fun W h => by rw [HKD.out]; exact h.cblk.cell 0
    have HLN : Hid (L1.length ≤ 2) := Lib.hid (by rw [HL1.out]; split <;> simp)
    obtain ⟨mn, hmn⟩ : ∃ q, q = methodN kd.toNat := ⟨_, rfl⟩
    have HMN := Lib.hid hmn
    have HIX : Hid (∀ W : World, Sem.run Tryz.prog (Instr.index 76 (.agg methodVs.toArray) (.int .i64 kd)) W = .ok (.string ⟨mn.toArray⟩) W) := Lib.hid (by rw [hmn]; exact index_method_at kd HRG.out.1 HRG.out.2)
    clear hmn
    go_upto_region 6 with (fail)
    obtain ⟨Wd, hWd⟩ : ∃ Wd, Wd = wc.drew := ⟨_, rfl⟩
    have hb : Below wc.heap.size wc Wd := by rw [hWd]; exact (Below.refl _ _).drew
    have HSn := Lib.hid (HS.out.ext hb)
    have HO1n := Lib.hid (HO1.out.ext hb)
    clear HO1
    have HO1 := HO1n
    clear HO1n
    clear hb HS
    have HS := HSn
    clear HSn
    refine wp_region_held_drew (S := (fun w' => w'.cell? ⟨w.heap.size, 0, none⟩ = some (.int .i64 kd))) (by kernel_rfl) ?_ (fun hHeld => ?_)
    · rw [← hWd]; exact HKS.out _ HS.out
    rw [← hWd] at hHeld ⊢
    clear hWd
    refine wpAnyH_take (i := 0) (oi := ⟨some 30, _, _, _, _, _⟩) (v := ?_) rfl (by kernel_rfl) (by kernel_rfl) (by kernel_rfl) (fun _ _ _ h => h) (Or.inl ⟨by rfl, ?_⟩) (by assumption) ?_; rotate_left; focus (intro w hSw; (try dsimp only at hSw); first | (go_simp; done) | (go_simp; with_reducible rfl))
    try simp only [Act.put]
    try simp only [List.setIfInBounds_toArray]
    try simp only [List.set_cons_succ, List.set_cons_zero]
    refine wpAnyH_take (i := 2) (oi := ⟨some 32, _, _, _, _, _⟩) (v := ?_) rfl (by kernel_rfl) (by kernel_rfl) (by kernel_rfl) (fun _ _ _ h => h) (Or.inl ⟨by rfl, ?_⟩) (by assumption) ?_; rotate_left; focus (intro w hSw; (try dsimp only at hSw); first | (go_simp; done) | (go_simp; with_reducible rfl))
    try simp only [Act.put]
    try simp only [List.setIfInBounds_toArray]
    try simp only [List.set_cons_succ, List.set_cons_zero]
    refine wpAnyH_take (i := 3) (oi := ⟨some 33, _, _, _, _, _⟩) (v := ?_) rfl (by kernel_rfl) (by kernel_rfl) (by kernel_rfl) (fun _ _ _ h => h) (Or.inl ⟨by rfl, ?_⟩) (by assumption) ?_; rotate_left; focus (intro w hSw; (try dsimp only at hSw); first | (go_simp; done) | (go_simp; with_reducible rfl))
    try simp only [Act.put]
    try simp only [List.setIfInBounds_toArray]
    try simp only [List.set_cons_succ, List.set_cons_zero]
    refine wpAnyH_ready (rs := [1]) (by kernel_rfl) (by simp) ?_
    refine AllReadyH.cons (i := 1) (o := ⟨some 31, _, _, _, _, _⟩) rfl (fun K hK => ?_) ?_
    · go_simp
      refine (methods_any _).mono ?_
      rintro e wm ⟨rfl, hb⟩
      have HSn := Lib.hid (HS.out.ext hb)
      have HO1n := Lib.hid (HO1.out.ext hb)
      clear HO1
      have HO1 := HO1n
      clear HO1n
      clear hb HS
      have HS := HSn
      clear HSn
      refine hK.out _ _ ?_ (fun hHeld => ?_)
      · exact HKS.out _ HS.out
      try simp only [Act.put]
      try simp only [List.setIfInBounds_toArray]
      try simp only [List.set_cons_succ, List.set_cons_zero]
      refine wpAnyH_take (i := 4) (oi := ⟨some 34, _, _, _, _, _⟩) (v := ?_) rfl (by kernel_rfl) (by kernel_rfl) (by kernel_rfl) (fun _ _ _ h => h) (Or.inl ⟨by rfl, ?_⟩) (by assumption) ?_; rotate_left; focus (intro w hSw; (try dsimp only at hSw); go_simp; rw [HIX.out]; rfl)
      try simp only [Act.put]
      try simp only [List.setIfInBounds_toArray]
      try simp only [List.set_cons_succ, List.set_cons_zero]
      refine wpAnyH_ready (rs := [5]) (by kernel_rfl) (by simp) ?_
      refine AllReadyH.cons (i := 5) (o := ⟨some 35, _, _, _, _, _⟩) rfl (fun K hK => ?_) ?_
      · go_simp
        refine (str_any mn _).mono ?_
        rintro e wt ⟨rfl, hb⟩
        have HSn := Lib.hid (HS.out.ext hb)
        have HO1n := Lib.hid (HO1.out.ext hb)
        clear HO1
        have HO1 := HO1n
        clear HO1n
        clear hb HS
        have HS := HSn
        clear HSn
        refine hK.out _ _ ?_ (fun hHeld => ?_)
        · exact HKS.out _ HS.out
        try simp only [Act.put]
        try simp only [List.setIfInBounds_toArray]
        try simp only [List.set_cons_succ, List.set_cons_zero]
        refine wpAnyH_take (i := 6) (oi := ⟨some 36, _, _, _, _, _⟩) (v := ?_) rfl (by kernel_rfl) (by kernel_rfl) (by kernel_rfl) (fun _ _ _ h => h) (Or.inl ⟨by rfl, ?_⟩) (by assumption) ?_; rotate_left; focus (intro w hSw; (try dsimp only at hSw); first | (go_simp; done) | (go_simp; with_reducible rfl))
        try simp only [Act.put]
        try simp only [List.setIfInBounds_toArray]
        try simp only [List.set_cons_succ, List.set_cons_zero]
        refine wpAnyH_ready (rs := [7]) (by kernel_rfl) (by simp) ?_
        refine AllReadyH.cons (i := 7) (o := ⟨some 37, _, _, _, _, _⟩) rfl (fun K hK => ?_) ?_
        · obtain ⟨gv, hgv⟩ : ∃ gv, gv = wt.heap.size := ⟨_, rfl⟩
          obtain ⟨wv, hwv⟩ : ∃ wv, wv = wt.alloc (.cells ([(kMethod, strD mn)].flatMap ptC).toArray 74) := ⟨_, rfl⟩
          have hb : Below wt.heap.size wt wv := by rw [hwv]; exact below_a1 _ _
          have HPgv : Hid (PtsAt wv (fun g => g ≠ w.heap.size + 1) (some ⟨gv, 0, none⟩) [(kMethod, strD mn)]) := Lib.hid ⟨by rw [hwv, hgv]; exact row_blk (Blk.new rfl) (flat_length ptC 7 ptC_len _), fun p hp => by
            simp only [List.mem_cons, List.mem_nil_iff, or_false] at hp
            rcases hp with rfl
            exact .leaf⟩
          have HOgv : Hid (Own wv (w.heap.size + 2) 74 7 (some ⟨gv, 0, none⟩) [(kMethod, strD mn)].length [(kMethod, strD mn)].length ([(kMethod, strD mn)].flatMap ptC)) := Lib.hid (by have := HS.out.sz; rw [hwv, hgv]; exact own_blk (cs := ([(kMethod, strD mn)].flatMap ptC).toArray) (Blk.new rfl) (by omega) (by rw [List.size_toArray]; exact flat_length ptC 7 ptC_len _) (by simp [maxLen]))
          have HSn := Lib.hid (HS.out.ext hb)
          have HO1n := Lib.hid (HO1.out.ext hb)
          clear HO1
          have HO1 := HO1n
          clear HO1n
          clear hb HS
          have HS := HSn
          clear HSn
          simp only [List.flatMap_cons, List.flatMap_nil] at hwv
          try simp only [ptC_str] at hwv
          try simp only [ptC_num] at hwv
          try simp only [ptC_of] at hwv
          try simp only [List.cons_append, List.nil_append] at hwv
          simp only [List.append_nil, kMethod] at hwv
          go_simp
          rw [← hwv, ← hgv]
          clear hwv hgv
          refine hK.out _ _ ?_ (fun hHeld => ?_)
          · exact HKS.out _ HS.out
          try simp only [Act.put]
          try simp only [List.setIfInBounds_toArray]
          try simp only [List.set_cons_succ, List.set_cons_zero]
          refine wpAnyH_ready (rs := [8]) (by kernel_rfl) (by simp) ?_
          refine AllReadyH.cons (i := 8) (o := ⟨some 38, _, _, _, _, _⟩) rfl (fun K hK => ?_) ?_
          · refine step_append_Own (act := ⟨_, []⟩) rfl (.tmp 30) (.tmp 37) 75 rfl (w.heap.size + 2) 74 _ 7 104 Tryz.underlying75 Tryz.infoPart rfl (by decide) a1 L1.length n1 _ (by simp [go_sem]) HO1.out (some ⟨gv, 0, none⟩) 1 1 _ (by simp [go_sem]) HPgv.out.row ptC_one (by have := HLN.out; simp [maxLen]; omega) (by have := HLN.out; simp; omega) HS.out.sz ?_
            intro a7 c7 w7 ho7 hg7 hb7
            simp only [Act.put, List.setIfInBounds_toArray, List.set_cons_succ, List.set_cons_zero]
            have HSn := Lib.hid (HS.out.grow hg7 (HO1.out.rowBase (Nat.le_refl _)))
            have HO2 := Lib.hid ho7
            clear HS ho7 hg7 hb7 HO1 HPgv HOgv
            have HS := HSn
            clear HSn
            refine hK.out _ _ ?_ (fun hHeld => ?_)
            · exact HKS.out _ HS.out
            try simp only [Act.put]
            try simp only [List.setIfInBounds_toArray]
            try simp only [List.set_cons_succ, List.set_cons_zero]
            refine wpAnyH_take (i := 9) (oi := ⟨some 4, _, _, _, _, _⟩) (v := ?_) rfl (by kernel_rfl) (by kernel_rfl) (by kernel_rfl) (fun _ _ _ h => h) (Or.inl ⟨by rfl, ?_⟩) (by assumption) ?_; rotate_left; focus (intro w hSw; (try dsimp only at hSw); first | (go_simp; done) | (go_simp; with_reducible rfl))
            try simp only [Act.put]
            try simp only [List.setIfInBounds_toArray]
            try simp only [List.set_cons_succ, List.set_cons_zero]
            refine wpAnyH_done (by kernel_rfl) ?_ _
            clear hHeld
            obtain ⟨L2, hL2⟩ : ∃ L, L = L1 ++ [(kMethod, strD mn)] := ⟨_, rfl⟩
            have hln : L1.length + 1 = L2.length := by rw [hL2]; simp
            have HP2 : Hid (Own w7 (w.heap.size + 2) 74 7 a7 L2.length c7 (L2.flatMap ptC)) := Lib.hid (by rw [← hln, hL2, List.flatMap_append]; exact HO2.out)
            have HL2 := Lib.hid hL2
            have HLN2 : Hid (L2.length ≤ 3) := Lib.hid (by have := HLN.out; omega)
            rw [hln]
            clear hL2 hln HO2
            have HVS : Hid (∀ W, WrS w c W → ∀ p ∈ L2, ValAt W (fun g => g ≠ w.heap.size + 1) p.2) := Lib.hid fun W h => by rw [HL2.out]; exact msg_vals HL1.out (h.cat.id.mono fun g h _ => by show _ ≠ _; omega)
            have HMM : Hid (∀ L : List Pt, L.map (fun p => (p.1, p.2.v)) = (if 3 < c.kind then [(kParams, paramsW c.k)] else []) → (L2 ++ L).map (fun p => (p.1, p.2.v)) = msgL c.k) := Lib.hid fun L h => by rw [HL2.out]; exact msg_map HL1.out HMN.out HKD.out h
            have c0 : w7.cell? ⟨w.heap.size, 0, none⟩ = some (.int .i64 kd) := HKS.out _ HS.out
            go_upto_if 41 with (fail)
            clear c0 HL1 HL2 HMN HLN HIX
            go_cut [4] from 41 to 47 (fun l W => ∃ L3 a n, l = .slice a (List.length L3) n ∧ Hid (PtsAt W (fun g => g ≠ w.heap.size + 1) a L3) ∧ Hid (L3.map (fun p => (p.1, p.2.v)) = msgL c.k) ∧ Hid (WrS w c W))
            case first =>
              by_cases hk3 : 3 < kd
              case neg =>
                have d4 : decide (3 < kd) = false := by simpa using hk3
                have HM3 : Hid (L2.map (fun p => (p.1, p.2.v)) = msgL c.k) := Lib.hid (by have := HMM.out [] (by rw [if_neg (by rw [← HKD.out]; exact hk3)]; rfl); rwa [List.append_nil] at this)
                rw [d4]
                clear hk3 d4
                go_wp2
                go_meet
                exact ⟨L2, a7, c7, rfl, Lib.hid ⟨HP2.out.row, HVS.out _ HS.out⟩, HM3, HS⟩
              case pos =>
                have d4 : decide (3 < kd) = true := by simpa using hk3
                have HK3 := Lib.hid hk3
                rw [d4]
                clear hk3 d4
                go_wp2_with ((with_reducible show wpList _ _ _ (⟨some 43, _, _, _, _, _⟩ :: _) _ _); refine load_call rfl _ rfl w.heap.size rfl c HS.out.cblk ?_)
                refine (params_any (fun g => g ≠ w.heap.size + 1 ∧ rowOf a7 c7 ≠ some g) c w7 (fun g hg => ⟨by have := HS.out.sz; omega, own_lt2 HP2.out hg⟩) (by have := HK3.out; have := HKD.out; omega) (by have := HRG.out.2; have := HKD.out; omega) (HS.out.cat.other.mono fun g h _ => ⟨by omega, fun e => by have := HP2.out.rowBase (Nat.le_refl _) _ e; omega⟩) HS.out.cat.row HNC.out).mono ?_
                rintro e w8 ⟨dp, rfl, hvp, hdp, hb⟩
                have HVP := Lib.hid hvp
                have HDP := Lib.hid hdp
                clear hvp hdp
                have HSn := Lib.hid (HS.out.ext hb)
                have HP2n := Lib.hid (HP2.out.ext hb)
                clear HP2
                have HP2 := HP2n
                clear HP2n
                clear hb HS
                have HS := HSn
                clear HSn
                go_wp2_with (at_builtin; refine wpList_append_Own rfl _ _ 75 rfl (w.heap.size + 2) 74 _ 7 104 Tryz.underlying75 Tryz.infoPart rfl (by decide) a7 L2.length c7 _ rfl (HP2.out.alloc _) _ 1 1 [.string ⟨kParams.toArray⟩, .int .i64 dp.sort, .bool dp.on, .int .i64 dp.n, .string ⟨dp.text.toArray⟩, .slice dp.a dp.list.length dp.c, .slice dp.ka dp.keys.length dp.kc] rfl (Row.new1 (by simp) rfl rfl) (by intro u hu; simp at hu; rcases hu with rfl | rfl | rfl | rfl | rfl | rfl | rfl <;> rfl) (by have := HLN2.out; simp [maxLen]; omega) (by have := HLN2.out; simp; omega) (by have := HS.out.sz; simp; omega) ?_; intro a9 c9 w9 ho9 hg9 hb9)
                have HSn := Lib.hid ((HS.out.ext (below_a1 _ _)).grow hg9 (HP2.out.rowBase (Nat.le_refl _)))
                have HD9 : Hid (ValAt w9 (fun g => g ≠ w.heap.size + 1) dp) := Lib.hid (((HDP.out.ext (below_a1 _ _)).congr fun g h1 h2 => hg9.block g h2 (fun e => h1.2 e.symm)).mono fun g h1 _ => h1.1)
                have HP9 : Hid (Row w9 7 a9 (L2.length + 1) ((L2 ++ [(kParams, dp)]).flatMap ptC)) := Lib.hid (by rw [List.flatMap_append]; simp only [List.flatMap_cons, List.flatMap_nil, ptC_of, List.append_nil]; exact ho9.row)
                clear HS ho9 hg9 hb9
                go_meet
                exact ⟨L2 ++ [(kParams, dp)], a9, c9, by rw [List.length_append]; rfl, Lib.hid ⟨by rw [List.length_append]; exact HP9.out, fun p hp => by
                  rcases List.mem_append.1 hp with h | h
                  · exact HVS.out _ HSn.out p h
                  · rw [List.mem_singleton] at h; rw [h]; exact HD9.out⟩, Lib.hid (HMM.out _ (by rw [if_pos (by rw [← HKD.out]; exact HK3.out), ← HVP.out]; rfl)), HSn⟩
            case rest =>
              obtain ⟨L3, a3, n3, rfl, HP3, HM3, HS3⟩ := hcut
              clear HS HP2 HLN2 HVS HMM HKS
              have HS := HS3
              clear HS3
              go_wp2_with fail
              refine (record_any (fun g => g ≠ w.heap.size + 1) a3 n3 L3 wc (fun g hg => by have := HS.out.sz; show _ ≠ _; omega) HP3.out (msg_len HM3.out)).mono ?_
              rintro e w10 ⟨d, rfl, hvd, hdd, hb⟩
              have HV : Hid (d.v = msgW c.k) := Lib.hid (hvd.trans (congrArg recW HM3.out))
              have HD := Lib.hid hdd
              clear hvd hdd HP3 HM3
              have HSn := Lib.hid (HS.out.ext hb)
              clear hb HS
              have HS := HSn
              clear HSn
              go_upto_region 10 with (fail)
              obtain ⟨g5, hg5⟩ : ∃ g5, g5 = w10.heap.size := ⟨_, rfl⟩
              obtain ⟨w11, hw11⟩ : ∃ w11, w11 = w10.alloc (.cells #[.int .i64 d.sort, .bool d.on, .int .i64 d.n, .string ⟨d.text.toArray⟩, .slice d.a d.list.length d.c, .slice d.ka d.keys.length d.kc] 36) := ⟨_, rfl⟩
              have hb : Below w10.heap.size w10 w11 := by rw [hw11]; exact below_a1 _ _
              have HB5 : Hid (Blk w11 g5 #[.int .i64 d.sort, .bool d.on, .int .i64 d.n, .string ⟨d.text.toArray⟩, .slice d.a d.list.length d.c, .slice d.ka d.keys.length d.kc] 36) := Lib.hid (by rw [hw11, hg5]; exact Blk.new rfl)
              have HSn := Lib.hid (HS.out.ext hb)
              have HDn := Lib.hid (HD.out.ext hb)
              clear HD
              have HD := HDn
              clear HDn
              clear hb HS
              have HS := HSn
              clear HSn
              rw [← hw11, ← hg5]
              clear hw11 hg5
              obtain ⟨b0, b1, b2, b3, b4, b5⟩ := HB5.out.sixT
              go_wp2_with fail
              have hm := msg_any d w11 (HD.out.mono fun _ _ _ => trivial) (by rw [HV.out]; exact HSM.out)
              rw [VD.val6, HV.out] at hm
              refine hm.mono ?_
              clear hm b0 b1 b2 b3 b4 b5
              rintro e w12 ⟨c6, rfl, hc6, hk6, hkk, hb⟩
              have HC6 := Lib.hid hc6
              have HK6 := Lib.hid hk6
              have HKK := Lib.hid hkk
              clear hc6 hk6 hkk
              have HSn := Lib.hid (HS.out.ext hb)
              have HDn := Lib.hid (HD.out.ext hb)
              clear HD
              have HD := HDn
              clear HDn
              have HB5n := Lib.hid (HB5.out.ext hb)
              clear HB5
              have HB5 := HB5n
              clear HB5n
              clear hb HS
              have HS := HSn
              clear HSn
              obtain ⟨r, hr⟩ : ∃ r, r = (readC (msgW c.k)).1 := ⟨_, rfl⟩
              rw [← hr]
              have HR := Lib.hid hr
              clear hr
              obtain ⟨W6, hW6⟩ : ∃ q, q = (w12.alloc (.cells #[.int .i64 0, .int .i64 0, .bool false, .int .i64 0, .string { data := #[] }, .slice none 0 0, .slice none 0 0, .string { data := #[] }, .int .i64 0, .string { data := #[] }, .slice none 0 0, .int .i64 0, .int .i64 0, .int .i64 0, .bool false, .int .i64 0, .string { data := #[] }, .slice none 0 0, .slice none 0 0] 43)).setRow w12.heap.size (cdC c6) := ⟨_, rfl⟩
              have hb : Below w12.heap.size w12 W6 := by rw [hW6]; exact below_row (below_a1 _ _) (Nat.le_refl _) _
              have HBC : Hid (Blk W6 w12.heap.size (cdC c6) 43) := Lib.hid (by rw [hW6]; exact setRow_blk (cur := #[.int .i64 0, .int .i64 0, .bool false, .int .i64 0, .string { data := #[] }, .slice none 0 0, .slice none 0 0, .string { data := #[] }, .int .i64 0, .string { data := #[] }, .slice none 0 0, .int .i64 0, .int .i64 0, .int .i64 0, .bool false, .int .i64 0, .string { data := #[] }, .slice none 0 0, .slice none 0 0]) (Blk.new rfl))
              have HSn := Lib.hid (HS.out.ext hb)
              have HDn := Lib.hid (HD.out.ext hb)
              clear HD
              have HD := HDn
              clear HDn
              have HB5n := Lib.hid (HB5.out.ext hb)
              clear HB5
              have HB5 := HB5n
              clear HB5n
              have HC6n := Lib.hid (HC6.out.ext hb)
              clear HC6
              have HC6 := HC6n
              clear HC6n
              clear hb HS
              have HS := HSn
              clear HSn
              go_upto_region 11 with ((with_reducible show wpList _ _ _ (⟨none, Op.store 43 (Operand.tmp 6) _, _, _, _, _⟩ :: _) _ _); refine store_call rfl _ _ rfl w12.heap.size c6 zeroCD rfl rfl (Blk.new rfl) ?_; rw [← hW6]; clear hW6)
              by_cases hr0 : r = 0
              case neg =>
                have hrb : (r != 0) = true := by simpa using hr0
                have HN : Hid (¬ wrOk c) := Lib.hid fun h => hr0 (by rw [HR.out, h.2.2])
                clear hr0
                have f0 := HS.out.rblk.free 0
                have f1 := HS.out.rblk.free 1
                have f2 := HS.out.rblk.free 2
                have f3 := HS.out.rblk.free 3
                have f4 := HS.out.rblk.free 4
                have f5 := HS.out.rblk.free 5
                obtain ⟨z0, z1, z2, z3, z4, z5⟩ := HS.out.rblk.sixT
                go_wp2
                exact write_end (g := w.heap.size + 1) rfl rfl (store6 HS.out.rblk) (HS.out.none HN.out)
              case pos =>
                have hrb : (r != 0) = false := by simpa using hr0
                have HE : Hid (readC (msgW c.k) = (0, c6.k)) := Lib.hid (by rw [HKK.out, ← hr0, HR.out])
                clear hr0
                go_wp2_with (first | ((with_reducible show wpList _ _ _ (⟨some 58, _, _, _, _, _⟩ :: _) _ _); refine load_call_g rfl _ rfl w12.heap.size rfl c6 HBC.out ?_) | ((with_reducible show wpList _ _ _ (⟨some 59, _, _, _, _, _⟩ :: _) _ _); refine load_call_g rfl _ rfl w.heap.size rfl c HS.out.cblk ?_))
                have hz := readC_size HE.out
                refine (same_call c6 c W6 HC6.out ⟨HS.out.cat.id.mono fun _ _ _ => trivial, HS.out.cat.other.mono fun _ _ _ => trivial, HS.out.cat.row⟩ (Nat.le_trans hz.1 HSM.out) (Nat.le_trans hz.2.1 HSM.out) (Nat.le_trans hz.2.2 HSM.out) HNC.out).mono ?_
                clear hz
                rintro e w14 ⟨u, rfl, hb, b, rfl, hbb⟩
                have HQ : Hid (b = true ↔ c6.k = c.k) := Lib.hid (hbb.trans (same_k HK6.out (by have := HRG.out.1; have := HKD.out; omega)))
                clear hbb
                have HSn := Lib.hid (HS.out.ext hb)
                have HDn := Lib.hid (HD.out.ext hb)
                clear HD
                have HD := HDn
                clear HDn
                have HB5n := Lib.hid (HB5.out.ext hb)
                clear HB5
                have HB5 := HB5n
                clear HB5n
                clear hb HS
                have HS := HSn
                clear HSn
                cases b with
                | false =>
                  have HN : Hid (¬ wrOk c) := Lib.hid fun h => by have h3 := HE.out.symm.trans h.2.2; exact absurd (HQ.out.2 (Prod.mk.inj h3).2) (by decide)
                  have f0 := HS.out.rblk.free 0
                  have f1 := HS.out.rblk.free 1
                  have f2 := HS.out.rblk.free 2
                  have f3 := HS.out.rblk.free 3
                  have f4 := HS.out.rblk.free 4
                  have f5 := HS.out.rblk.free 5
                  obtain ⟨z0, z1, z2, z3, z4, z5⟩ := HS.out.rblk.sixT
                  go_wp2
                  exact write_end (g := w.heap.size + 1) rfl rfl (store6 HS.out.rblk) (HS.out.none HN.out)
                | true =>
                  have HY : Hid (wrOk c) := Lib.hid ⟨by have := HRG.out.1; have := HKD.out; omega, by have := HRG.out.2; have := HKD.out; omega, by rw [HE.out, HQ.out.1 rfl]⟩
                  obtain ⟨b0, b1, b2, b3, b4, b5⟩ := HB5.out.sixT
                  have f0 := HS.out.rblk.free 0
                  have f1 := HS.out.rblk.free 1
                  have f2 := HS.out.rblk.free 2
                  have f3 := HS.out.rblk.free 3
                  have f4 := HS.out.rblk.free 4
                  have f5 := HS.out.rblk.free 5
                  obtain ⟨z0, z1, z2, z3, z4, z5⟩ := HS.out.rblk.sixT
                  go_wp2
                  refine write_end (g := w.heap.size + 1) rfl rfl (store6 HS.out.rblk) ?_
                  exact ⟨d, 0, rfl, fun _ => ⟨rfl, HV.out⟩, fun h => absurd HY.out h, (HD.out.congr fun g h _ => put6_other h).mono fun _ _ _ => trivial, put6_below HS.out.below (by omega)⟩
          exact AllReadyH.nil
        exact AllReadyH.nil
      exact AllReadyH.nil
    exact AllReadyH.nil
end Go.Proofs.YthnbeebilomchaaGreatDoor

namespace Go.Proofs.YthnbeebilomchaaGreatDoor
open Go Go.RowKit

def liveL : Nm := [123, 34, 106, 115, 111, 110, 114, 112, 99, 34, 58, 34, 50, 46, 48, 34, 44, 34, 105, 100, 34, 58, 55, 44, 34, 109, 101, 116, 104, 111, 100, 34, 58, 34, 116, 101, 120, 116, 68, 111, 99, 117, 109, 101, 110, 116, 47, 104, 111, 118, 101, 114, 34, 44, 34, 112, 97, 114, 97, 109, 115, 34, 58, 123, 34, 116, 101, 120, 116, 68, 111, 99, 117, 109, 101, 110, 116, 34, 58, 123, 34, 117, 114, 105, 34, 58, 34, 97, 34, 125, 44, 34, 112, 111, 115, 105, 116, 105, 111, 110, 34, 58, 123, 34, 108, 105, 110, 101, 34, 58, 51, 44, 34, 99, 104, 97, 114, 97, 99, 116, 101, 114, 34, 58, 52, 125, 125, 125]
def liveC : C := { C.zero with kind := 7, id := numW 7, name := [97], pl := 3, pu := 4 }
def liveV : V := msgW liveC
theorem live_msg : msgW liveC = liveV := rfl
theorem live_read : readL liveL = .ok liveV [] := by kernel_rfl
theorem live_call : readC liveV = (0, liveC) := by kernel_rfl
theorem live_null : (readC zeroD.v).1 = 42 := by kernel_rfl
theorem live_size : sizeV liveV ≤ 1048576 := by decide +kernel
set_option maxHeartbeats 4000000 in
set_option maxRecDepth 20000 in
theorem live_any (w : World) (hG : Glob w) : Calls Tryz.prog 7 #[] w (BoE w true) := by
  have h1 := read_any liveL w hG (by decide)
  rw [live_read] at h1
  have H1 := Lib.hid h1
  have HG := Lib.hid hG
  unfold liveL at H1
  clear h1 hG
  go_enter Tryz.func7, Tryz.ntmps7
  go_wp2_with fail
  refine H1.out.mono ?_
  intro e w1 h
  obtain ⟨d, rfl, hdv, hva, hb⟩ := readE_ok h
  have HB : Hid (Below w.heap.size w w1) := Lib.hid hb
  have HV := Lib.hid hdv
  have HD := Lib.hid hva
  clear h hdv hva hb H1
  obtain ⟨g1, hg1⟩ : ∃ q, q = w1.heap.size := ⟨_, rfl⟩
  obtain ⟨w2, hw2⟩ : ∃ q, q = w1.alloc (.cells #[.int .i64 d.sort, .bool d.on, .int .i64 d.n, .string ⟨d.text.toArray⟩, .slice d.a d.list.length d.c, .slice d.ka d.keys.length d.kc] 36) := ⟨_, rfl⟩
  have hb : Below w1.heap.size w1 w2 := by rw [hw2]; exact below_a1 _ _
  have H1 : Hid (Blk w2 g1 #[.int .i64 d.sort, .bool d.on, .int .i64 d.n, .string ⟨d.text.toArray⟩, .slice d.a d.list.length d.c, .slice d.ka d.keys.length d.kc] 36) := Lib.hid (by rw [hw2, hg1]; exact Blk.new rfl)
  have HBn := Lib.hid (HB.out.trans (hb.mono HB.out.size))
  have HDn := Lib.hid (HD.out.ext hb)
  clear HD
  have HD := HDn
  clear HDn
  clear hb HB
  have HB := HBn
  clear HBn
  go_upto_region 2 with (fail)
  rw [← hw2, ← hg1]
  clear hw2 hg1
  obtain ⟨b0, b1, b2, b3, b4, b5⟩ := H1.out.sixT
  go_wp2_with fail
  have hm := msg_any d w2 HD.out (by rw [HV.out]; exact live_size)
  rw [VD.val6, HV.out, live_call] at hm
  refine hm.mono ?_
  clear hm b0 b1 b2 b3 b4 b5
  rintro e w3 ⟨c, rfl, hc, hk, hkk, hb⟩
  have HC := Lib.hid hc
  have HK : Hid (c.kind = 7) := Lib.hid (by have := congrArg C.kind hkk; change c.kind.toNat = 7 at this; omega)
  have HKK : Hid (c.k = liveC) := Lib.hid hkk
  clear hc hk hkk
  have HBn := Lib.hid (HB.out.trans (hb.mono HB.out.size))
  have HDn := Lib.hid (HD.out.ext hb)
  clear HD
  have HD := HDn
  clear HDn
  have H1n := Lib.hid (H1.out.ext hb)
  clear H1
  have H1 := H1n
  clear H1n
  clear hb HB
  have HB := HBn
  clear HBn
  obtain ⟨g3, hg3⟩ : ∃ q, q = w3.heap.size := ⟨_, rfl⟩
  obtain ⟨w4, hw4⟩ : ∃ q, q = (w3.alloc (.cells #[.int .i64 0, .int .i64 0, .bool false, .int .i64 0, .string { data := #[] }, .slice none 0 0, .slice none 0 0, .string { data := #[] }, .int .i64 0, .string { data := #[] }, .slice none 0 0, .int .i64 0, .int .i64 0, .int .i64 0, .bool false, .int .i64 0, .string { data := #[] }, .slice none 0 0, .slice none 0 0] 43)).setRow w3.heap.size (cdC c) := ⟨_, rfl⟩
  have hb : Below w3.heap.size w3 w4 := by rw [hw4]; exact below_row (below_a1 _ _) (Nat.le_refl _) _
  have H3 : Hid (Blk w4 g3 (cdC c) 43) := Lib.hid (by rw [hw4, hg3]; exact setRow_blk (cur := #[.int .i64 0, .int .i64 0, .bool false, .int .i64 0, .string { data := #[] }, .slice none 0 0, .slice none 0 0, .string { data := #[] }, .int .i64 0, .string { data := #[] }, .slice none 0 0, .int .i64 0, .int .i64 0, .int .i64 0, .bool false, .int .i64 0, .string { data := #[] }, .slice none 0 0, .slice none 0 0]) (Blk.new rfl))
  have HBn := Lib.hid (HB.out.trans (hb.mono HB.out.size))
  have HDn := Lib.hid (HD.out.ext hb)
  clear HD
  have HD := HDn
  clear HDn
  have H1n := Lib.hid (H1.out.ext hb)
  clear H1
  have H1 := H1n
  clear H1n
  have HCn := Lib.hid (HC.out.ext hb)
  clear HC
  have HC := HCn
  clear HCn
  clear hb HB
  have HB := HBn
  clear HBn
  go_upto_region 3 with (((with_reducible show wpList _ _ _ (⟨none, Op.store 43 (Operand.tmp 3) _, _, _, _, _⟩ :: _) _ _); refine store_call rfl _ _ rfl w3.heap.size c zeroCD rfl rfl (Blk.new rfl) ?_; rw [← hw4, ← hg3]; clear hw4 hg3))
  go_wp2_with ((with_reducible show wpList _ _ _ (⟨some 19, _, _, _, _, _⟩ :: _) _ _); refine load_call rfl _ rfl g3 rfl c H3.out ?_)
  refine (write_call c w4 HC.out (by rw [HKK.out, live_msg]; exact live_size) (by have := congrArg C.id HKK.out; change c.id.v = _ at this; rw [this]; decide) (by have := congrArg C.other HKK.out; change c.other.v = _ at this; rw [this]; decide) (by have := congrArg C.changes HKK.out; change c.changes = _ at this; rw [this]; decide)).mono ?_
  rintro e w5 ⟨d2, n2, rfl, hok, -, hd2, hb⟩
  obtain ⟨rfl, hv2⟩ := hok ⟨by rw [HK.out]; decide, by rw [HK.out]; decide, by rw [HKK.out, live_msg, live_call]⟩
  have HV2 : Hid (d2.v = liveV) := Lib.hid (by rw [hv2, HKK.out, live_msg])
  have HD2 := Lib.hid hd2
  clear hok hv2 hd2
  have HBn := Lib.hid (HB.out.trans (hb.mono HB.out.size))
  have HDn := Lib.hid (HD.out.ext hb)
  clear HD
  have HD := HDn
  clear HDn
  have H1n := Lib.hid (H1.out.ext hb)
  clear H1
  have H1 := H1n
  clear H1n
  have HCn := Lib.hid (HC.out.ext hb)
  clear HC
  have HC := HCn
  clear HCn
  have H3n := Lib.hid (H3.out.ext hb)
  clear H3
  have H3 := H3n
  clear H3n
  clear hb HB
  have HB := HBn
  clear HBn
  obtain ⟨g5, hg5⟩ : ∃ q, q = w5.heap.size := ⟨_, rfl⟩
  obtain ⟨w6, hw6⟩ : ∃ q, q = w5.alloc (.cells #[.int .i64 d2.sort, .bool d2.on, .int .i64 d2.n, .string ⟨d2.text.toArray⟩, .slice d2.a d2.list.length d2.c, .slice d2.ka d2.keys.length d2.kc] 36) := ⟨_, rfl⟩
  have hb : Below w5.heap.size w5 w6 := by rw [hw6]; exact below_a1 _ _
  have H5 : Hid (Blk w6 g5 #[.int .i64 d2.sort, .bool d2.on, .int .i64 d2.n, .string ⟨d2.text.toArray⟩, .slice d2.a d2.list.length d2.c, .slice d2.ka d2.keys.length d2.kc] 36) := Lib.hid (by rw [hw6, hg5]; exact Blk.new rfl)
  have HBn := Lib.hid (HB.out.trans (hb.mono HB.out.size))
  have HDn := Lib.hid (HD.out.ext hb)
  clear HD
  have HD := HDn
  clear HDn
  have H1n := Lib.hid (H1.out.ext hb)
  clear H1
  have H1 := H1n
  clear H1n
  have HCn := Lib.hid (HC.out.ext hb)
  clear HC
  have HC := HCn
  clear HCn
  have H3n := Lib.hid (H3.out.ext hb)
  clear H3
  have H3 := H3n
  clear H3n
  have HD2n := Lib.hid (HD2.out.ext hb)
  clear HD2
  have HD2 := HD2n
  clear HD2n
  clear hb HB
  have HB := HBn
  clear HBn
  go_upto_region 4 with (fail)
  rw [← hw6, ← hg5]
  clear hw6 hg5
  go_wp2_with fail
  have hm := msg_any zeroD w6 .leaf (by decide)
  rw [VD.val6] at hm
  refine hm.mono ?_
  clear hm
  rintro e w7 ⟨c7, rfl, -, -, -, hb⟩
  rw [show (readC zeroD.v).1 = 42 from live_null]
  have HBn := Lib.hid (HB.out.trans (hb.mono HB.out.size))
  have HDn := Lib.hid (HD.out.ext hb)
  clear HD
  have HD := HDn
  clear HDn
  have H1n := Lib.hid (H1.out.ext hb)
  clear H1
  have H1 := H1n
  clear H1n
  have HCn := Lib.hid (HC.out.ext hb)
  clear HC
  have HC := HCn
  clear HCn
  have H3n := Lib.hid (H3.out.ext hb)
  clear H3
  have H3 := H3n
  clear H3n
  have HD2n := Lib.hid (HD2.out.ext hb)
  clear HD2
  have HD2 := HD2n
  clear HD2n
  have H5n := Lib.hid (H5.out.ext hb)
  clear H5
  have H5 := H5n
  clear H5n
  clear hb HB
  have HB := HBn
  clear HBn
  obtain ⟨g7, hg7⟩ : ∃ q, q = w7.heap.size := ⟨_, rfl⟩
  obtain ⟨w8, hw8⟩ : ∃ q, q = (w7.alloc (.cells #[.int .i64 0, .int .i64 0, .bool false, .int .i64 0, .string { data := #[] }, .slice none 0 0, .slice none 0 0, .string { data := #[] }, .int .i64 0, .string { data := #[] }, .slice none 0 0, .int .i64 0, .int .i64 0, .int .i64 0, .bool false, .int .i64 0, .string { data := #[] }, .slice none 0 0, .slice none 0 0] 43)).setRow w7.heap.size (cdC c7) := ⟨_, rfl⟩
  have hb : Below w7.heap.size w7 w8 := by rw [hw8]; exact below_row (below_a1 _ _) (Nat.le_refl _) _
  have H7 : Hid (Blk w8 g7 (cdC c7) 43) := Lib.hid (by rw [hw8, hg7]; exact setRow_blk (cur := #[.int .i64 0, .int .i64 0, .bool false, .int .i64 0, .string { data := #[] }, .slice none 0 0, .slice none 0 0, .string { data := #[] }, .int .i64 0, .string { data := #[] }, .slice none 0 0, .int .i64 0, .int .i64 0, .int .i64 0, .bool false, .int .i64 0, .string { data := #[] }, .slice none 0 0, .slice none 0 0]) (Blk.new rfl))
  have HBn := Lib.hid (HB.out.trans (hb.mono HB.out.size))
  have HDn := Lib.hid (HD.out.ext hb)
  clear HD
  have HD := HDn
  clear HDn
  have H1n := Lib.hid (H1.out.ext hb)
  clear H1
  have H1 := H1n
  clear H1n
  have HCn := Lib.hid (HC.out.ext hb)
  clear HC
  have HC := HCn
  clear HCn
  have H3n := Lib.hid (H3.out.ext hb)
  clear H3
  have H3 := H3n
  clear H3n
  have HD2n := Lib.hid (HD2.out.ext hb)
  clear HD2
  have HD2 := HD2n
  clear HD2n
  have H5n := Lib.hid (H5.out.ext hb)
  clear H5
  have H5 := H5n
  clear H5n
  clear hb HB
  have HB := HBn
  clear HBn
  go_upto_region 5 with (((with_reducible show wpList _ _ _ (⟨none, Op.store 43 (Operand.tmp 7) _, _, _, _, _⟩ :: _) _ _); refine store_call rfl _ _ rfl w7.heap.size c7 zeroCD rfl rfl (Blk.new rfl) ?_; rw [← hw8, ← hg7]; clear hw8 hg7))
  have f0 : w8.cell? ⟨g3, 0, none⟩ = some (.int .i64 7) := by rw [← HK.out]; exact H3.out.cell 0
  have f3 : w8.cell? ⟨g3, 3, none⟩ = some (.int .i64 7) := by
    have h : c.id.n = 7 := by have := congrArg C.id HKK.out; change c.id.v = _ at this; rw [VD.v_eq] at this; injection this
    rw [← h]; exact H3.out.cell 3
  have f11 : w8.cell? ⟨g3, 11, none⟩ = some (.int .i64 3) := by
    have h : c.pl = 3 := congrArg C.pl HKK.out
    rw [← h]; exact H3.out.cell 11
  obtain ⟨b0, b1, b2, b3, b4, b5⟩ := H1.out.sixT
  obtain ⟨a0, a1, a2, a3, a4, a5⟩ := H5.out.sixT
  go_wp2_with fail
  clear b0 b1 b2 b3 b4 b5 a0 a1 a2 a3 a4 a5 f0 f3 f11
  have hs := same_any d d2 w8 HD.out HD2.out (by rw [HV.out]; exact live_size)
  rw [VD.val6, VD.val6] at hs
  refine hs.mono ?_
  clear hs
  rintro e w9 ⟨u, rfl, hb, b, rfl, hbb⟩
  obtain rfl : b = true := hbb.2 (by rw [HV.out, HV2.out])
  clear hbb
  have HBn := Lib.hid (HB.out.trans (hb.mono HB.out.size))
  clear hb HB
  have HB := HBn
  clear HBn
  go_wp2_with fail
  refine (code_any 233 w9).mono ?_
  rintro e w10 ⟨rfl, hb⟩
  rw [show codeN 233 = -32800 from rfl]
  have HBn := Lib.hid (HB.out.trans (hb.mono HB.out.size))
  clear hb HB
  have HB := HBn
  clear HBn
  go_wp2
  go_ret
  exact ⟨rfl, HB.out⟩
end Go.Proofs.YthnbeebilomchaaGreatDoor

namespace Go.Proofs.YthnbeebilomchaaGreatDoor
open Go Go.RowKit

end Go.Proofs.YthnbeebilomchaaGreatDoor

namespace Go.Proofs.YthnbeebilomchaaGreatDoor
open Go Go.RowKit

end Go.Proofs.YthnbeebilomchaaGreatDoor

namespace Go.Proofs.YthnbeebilomchaaGreatDoor
open Go Go.RowKit

theorem of_end {W : World} {tm : Array Value} {R : Ending → World → Prop} {g : Nat} {u0 u1 u2 u3 u4 u5 : Value} (h2 : tm.getD 2 undef = .pointer (some ⟨g, 0, none⟩)) (hB : Blk W g #[u0, u1, u2, u3, u4, u5] 36)
    (hR : R (.returned (.agg #[u0, u1, u2, u3, u4, u5])) W) : bodyPost Tryz.prog Tryz.f15 R .ret { tmps := tm, defers := [] } W := by
  obtain ⟨d0, d1, d2, d3, d4, d5⟩ := hB.sixT
  rw [Array.getD_eq_getD_getElem?] at h2
  refine bodyPost_ret (v := .agg #[u0, u1, u2, u3, u4, u5]) ?_ rfl hR
  simp [results, Tryz.results15, go_sem, h2, d0, d1, d2, d3, d4, d5]
set_option maxHeartbeats 8000000 in
theorem of_any (d : VD) : ∀ (B : Nat) (W : World), B ≤ W.heap.size → ValAt W (fun k => k < B) d → sizeV d.v ≤ 1048576 → Calls Tryz.prog 15 #[d.val] W (OfE B W d.v) := by
  induction d using VD.ind with
  | h s o n t a c ks ka kc keys ih =>
    intro B W hBW h hw
    have hks : ks.length ≤ 1048576 := by
      have h1 := sizeV_eq (.mk s o n t a c ks ka kc keys)
      have h2 := sizesV_len (ks.map VD.v)
      simp only [VD.list, List.length_map] at h1 h2
      omega
    have HV := Lib.hid h
    have HI : Hid (∀ x ∈ ks, ∀ V, W.heap.size ≤ V.heap.size → ValAt V (fun k => k < B) x → Calls Tryz.prog 15 #[x.val] V (OfE B V x.v)) := Lib.hid fun x hx V hV hv => ih x hx B V (by omega) hv (by
      have h1 := sizeV_eq (.mk s o n t a c ks ka kc keys)
      have h2 := sizesV_mem (l := ks.map VD.v) (List.mem_map_of_mem hx)
      simp only [VD.list] at h1
      omega)
    clear ih h hw
    have hst := OV.start 36 26 B W (.mk s o n t a c ks ka kc keys)
    unfold box3V at hst
    simp only [VD.sort, VD.on, VD.n, VD.text, VD.a, VD.list, VD.c, VD.ka, VD.keys, VD.kc] at hst
    have HST := Lib.hid hst
    clear hst
    unfold VD.val VD.cells strV
    go_enter Tryz.func15, Tryz.ntmps15
    go_wp2_with fail
    go_loopw [4] (fun i wr => ∃ (vs : List VD) (la : Option Addr) (lc : Nat), vs.length ≤ ks.length ∧ i = .int .i64 vs.length ∧ Hid (OV 36 26 B W wr (VD.mk s o n t a c ks ka kc keys) vs la lc) ∧ Hid (vs.map VD.v = (ks.take vs.length).map VD.v)) (fun i _ => ks.length - (intOf i).toNat)
    case atStart => exact ⟨[], none, 0, Nat.zero_le _, rfl, HST, Lib.hid rfl⟩
    case round =>
      obtain ⟨vs, la, lc, hq, rfl, HO, HE⟩ := hrel
      have hwr := HO.out.blk.lt
      by_cases hlt : vs.length < ks.length
      · obtain ⟨x, hx⟩ := get_some hlt
        have hxm := List.mem_of_getElem? hx
        have hvr := (HV.out.ext HO.out.below)
        obtain ⟨eb, eo, ha, c0, c1, c2, c3, c4, c5⟩ := val_at hvr.row hx
        simp only [VD.a] at ha
        subst ha
        unfold strV at c3
        have hebB : eb < B := hvr.blk eb (by simp only [VD.list]; omega) rfl
        have a4 : wr.cell? ⟨W.heap.size, 4, none⟩ = some (.slice (some ⟨eb, eo, none⟩) ks.length c) := HO.out.arg.cell 4
        have HS : Hid (∀ w' : World, (∀ k, k ≤ W.heap.size → w'.heap[k]? = wr.heap[k]?) → w'.cell? ⟨W.heap.size, 4, none⟩ = some (.slice (some ⟨eb, eo, none⟩) ks.length c) ∧ w'.cell? ⟨eb, eo + vs.length * 6, none⟩ = some (.int .i64 x.sort) ∧ w'.cell? ⟨eb, eo + vs.length * 6 + 1, none⟩ = some (.bool x.on) ∧ w'.cell? ⟨eb, eo + vs.length * 6 + 2, none⟩ = some (.int .i64 x.n) ∧ w'.cell? ⟨eb, eo + vs.length * 6 + 3, none⟩ = some (.string ⟨x.text.toArray⟩) ∧ w'.cell? ⟨eb, eo + vs.length * 6 + 4, none⟩ = some (.slice x.a x.list.length x.c) ∧ w'.cell? ⟨eb, eo + vs.length * 6 + 5, none⟩ = some (.slice x.ka x.keys.length x.kc)) := Lib.hid fun w' hw => by
          have k : ∀ g j, g ≤ W.heap.size → w'.cell? ⟨g, j, none⟩ = wr.cell? ⟨g, j, none⟩ := fun g j hg => World.cell?_of_block (w := wr) (a := ⟨g, j, none⟩) (hw g hg)
          exact ⟨(k _ _ (Nat.le_refl _)).trans a4, (k _ _ (by omega)).trans c0, (k _ _ (by omega)).trans c1, (k _ _ (by omega)).trans c2, (k _ _ (by omega)).trans c3, (k _ _ (by omega)).trans c4, (k _ _ (by omega)).trans c5⟩
        have HT : Hid ((ks.take (vs.length + 1)).map VD.v = (ks.take vs.length).map VD.v ++ [x.v]) := Lib.hid (by rw [List.take_add_one, hx, Option.toList_some, List.map_append]; rfl)
        have hdr : Below wr.heap.size wr wr.drew := (Below.refl _ _).drew
        have HO1 := Lib.hid (HO.out.ext hdr)
        have hc := HI.out x hxm wr.drew HO1.out.below.size ((hvr.kid x hxm).ext hdr)
        rw [VD.val6] at hc
        have Hc := Lib.hid hc
        have hq0 := HO1.out.blk.cell 4
        clear hdr hc hx hxm hvr hebB
        go_upto_region 5 with (fail)
        refine wp_region_held_drew (S := fun w' => w'.cell? ⟨W.heap.size, 4, none⟩ = some (.slice (some ⟨eb, eo, none⟩) ks.length c) ∧ w'.cell? ⟨eb, eo + vs.length * 6, none⟩ = some (.int .i64 x.sort) ∧ w'.cell? ⟨eb, eo + vs.length * 6 + 1, none⟩ = some (.bool x.on) ∧ w'.cell? ⟨eb, eo + vs.length * 6 + 2, none⟩ = some (.int .i64 x.n) ∧ w'.cell? ⟨eb, eo + vs.length * 6 + 3, none⟩ = some (.string ⟨x.text.toArray⟩) ∧ w'.cell? ⟨eb, eo + vs.length * 6 + 4, none⟩ = some (.slice x.a x.list.length x.c) ∧ w'.cell? ⟨eb, eo + vs.length * 6 + 5, none⟩ = some (.slice x.ka x.keys.length x.kc)) (by kernel_rfl) ?_ (fun hHeld => ?_)
        · exact HS.out _ (fun _ _ => rfl)
        refine wpAnyH_take (i := 0) (oi := ⟨some 23, _, _, _, _, _⟩) (v := ?_) rfl (by kernel_rfl) (by kernel_rfl) (by kernel_rfl) (fun _ _ _ h => h) (Or.inl ⟨by rfl, ?_⟩) (by assumption) ?_; rotate_left; focus (intro w hSw; (try dsimp only at hSw); first | (go_simp; done) | (go_simp; with_reducible rfl))
        try simp only [Act.put]
        try simp only [List.setIfInBounds_toArray]
        try simp only [List.set_cons_succ, List.set_cons_zero]
        refine wpAnyH_take (i := 2) (oi := ⟨some 25, _, _, _, _, _⟩) (v := ?_) rfl (by kernel_rfl) (by kernel_rfl) (by kernel_rfl) (fun _ _ _ h => h) (Or.inl ⟨by rfl, ?_⟩) (by assumption) ?_; rotate_left; focus (intro w hSw; (try dsimp only at hSw); first | (go_simp; done) | (go_simp; with_reducible rfl))
        try simp only [Act.put]
        try simp only [List.setIfInBounds_toArray]
        try simp only [List.set_cons_succ, List.set_cons_zero]
        refine wpAnyH_take (i := 3) (oi := ⟨some 26, _, _, _, _, _⟩) (v := ?_) rfl (by kernel_rfl) (by kernel_rfl) (by kernel_rfl) (fun _ _ _ h => h) (Or.inl ⟨by rfl, ?_⟩) (by assumption) ?_; rotate_left; focus (intro w hSw; (try dsimp only at hSw); obtain ⟨s4, s0, s1, s2, s3, s5, s6⟩ := hSw; first | (go_simp; done) | (go_simp; with_reducible rfl))
        try simp only [Act.put]
        try simp only [List.setIfInBounds_toArray]
        try simp only [List.set_cons_succ, List.set_cons_zero]
        refine wpAnyH_take (i := 4) (oi := ⟨some 27, _, _, _, _, _⟩) (v := ?_) rfl (by kernel_rfl) (by kernel_rfl) (by kernel_rfl) (fun _ _ _ h => h) (Or.inl ⟨by rfl, ?_⟩) (by assumption) ?_; rotate_left; focus (intro w hSw; (try dsimp only at hSw); first | (go_simp; done) | (go_simp; with_reducible rfl))
        try simp only [Act.put]
        try simp only [List.setIfInBounds_toArray]
        try simp only [List.set_cons_succ, List.set_cons_zero]
        refine wpAnyH_take (i := 5) (oi := ⟨some 28, _, _, _, _, _⟩) (v := ?_) rfl (by kernel_rfl) (by kernel_rfl) (by kernel_rfl) (fun _ _ _ h => h) (Or.inl ⟨by rfl, ?_⟩) (by assumption) ?_; rotate_left; focus (intro w hSw; (try dsimp only at hSw); first | (go_simp; done) | (go_simp; with_reducible rfl))
        try simp only [Act.put]
        try simp only [List.setIfInBounds_toArray]
        try simp only [List.set_cons_succ, List.set_cons_zero]
        refine wpAnyH_take (i := 6) (oi := ⟨some 29, _, _, _, _, _⟩) (v := ?_) rfl (by kernel_rfl) (by kernel_rfl) (by kernel_rfl) (fun _ _ _ h => h) (Or.inl ⟨by rfl, ?_⟩) (by assumption) ?_; rotate_left; focus (intro w hSw; (try dsimp only at hSw); obtain ⟨s4, s0, s1, s2, s3, s5, s6⟩ := hSw; first | (go_simp; done) | (go_simp; with_reducible rfl))
        try simp only [Act.put]
        try simp only [List.setIfInBounds_toArray]
        try simp only [List.set_cons_succ, List.set_cons_zero]
        refine wpAnyH_ready (rs := [1, 7]) (by kernel_rfl) (by simp) ?_
        refine AllReadyH.cons (i := 1) (o := ⟨some 24, _, _, _, _, _⟩) rfl (fun K hK => ?_) ?_
        · go_simp
          refine hK.out _ _ ?_ (fun hHeld => ?_)
          · exact hHeld
          try simp only [Act.put]
          try simp only [List.setIfInBounds_toArray]
          try simp only [List.set_cons_succ, List.set_cons_zero]
          refine wpAnyH_ready (rs := [7]) (by kernel_rfl) (by simp) ?_
          refine AllReadyH.cons (i := 7) (o := ⟨some 30, _, _, _, _, _⟩) rfl (fun K hK => ?_) ?_
          · go_simp
            refine Hc.out.mono ?_
            rintro e w2 ⟨d2, rfl, hd2, hva2, hb2⟩
            have HO2 := Lib.hid (HO1.out.ext hb2)
            have Hown2 := Lib.hid HO2.out.own
            have HB2 := Lib.hid hb2
            have HVA2 := Lib.hid hva2
            have HD2 := Lib.hid hd2
            have hws2 := HO2.out.blk.lt
            have hq2 := HO2.out.blk.cell 4
            have HH2 : Hid (∀ k, k ≤ W.heap.size → w2.heap[k]? = wr.heap[k]?) := Lib.hid fun k hk => hb2.block k (show k < wr.heap.size by omega)
            have hq3 := (HO2.out.blk.alloc (.cells #[.int .i64 d2.sort, .bool d2.on, .int .i64 d2.n, .string ⟨d2.text.toArray⟩, .slice d2.a d2.list.length d2.c, .slice d2.ka d2.keys.length d2.kc] 36)).cell 4
            have HH3 : Hid (∀ k, k ≤ W.heap.size → (w2.alloc (.cells #[.int .i64 d2.sort, .bool d2.on, .int .i64 d2.n, .string ⟨d2.text.toArray⟩, .slice d2.a d2.list.length d2.c, .slice d2.ka d2.keys.length d2.kc] 36)).heap[k]? = wr.heap[k]?) := Lib.hid fun k hk => (Below.heap_alloc _ _ k (by omega)).trans (HH2.out k hk)
            clear hb2 hva2 hd2
            refine hK.out _ _ ?_ (fun hHeld => ?_)
            · exact HS.out _ HH2.out
            try simp only [Act.put]
            try simp only [List.setIfInBounds_toArray]
            try simp only [List.set_cons_succ, List.set_cons_zero]
            refine wpAnyH_ready (rs := [8]) (by kernel_rfl) (by simp) ?_
            refine AllReadyH.cons (i := 8) (o := ⟨some 31, _, _, _, _, _⟩) rfl (fun K hK => ?_) ?_
            · go_simp
              refine hK.out _ _ ?_ (fun hHeld => ?_)
              · exact HS.out _ HH3.out
              try simp only [Act.put]
              try simp only [List.setIfInBounds_toArray]
              try simp only [List.set_cons_succ, List.set_cons_zero]
              refine wpAnyH_ready (rs := [9]) (by kernel_rfl) (by simp) ?_
              refine AllReadyH.cons (i := 9) (o := ⟨some 32, _, _, _, _, _⟩) rfl (fun K hK => ?_) ?_
              · refine step_append_Own rfl (.tmp 24) (.tmp 31) 34 rfl (W.heap.size + 3) 36 _ 6 88 Tryz.underlying34 Tryz.infoVal rfl (by decide) la vs.length lc _ (by simp [go_sem]) (by exact Hown2.out.alloc _) _ 1 1 [.int .i64 d2.sort, .bool d2.on, .int .i64 d2.n, .string ⟨d2.text.toArray⟩, .slice d2.a d2.list.length d2.c, .slice d2.ka d2.keys.length d2.kc] (by simp [go_sem]; rfl) (by exact Row.new1 (by simp) rfl rfl) (by intro u hu; simp at hu; rcases hu with rfl | rfl | rfl | rfl | rfl | rfl <;> rfl) (by unfold maxLen; omega) (by omega) (by simp; omega) ?_
                intro a6 c6 w6 hown6 hg6 hbk6
                have HO6 := Lib.hid hown6
                have HG6 := Lib.hid hg6
                have HK6 := Lib.hid hbk6
                have HH6 : Hid (∀ k, k ≤ W.heap.size → w6.heap[k]? = wr.heap[k]?) := Lib.hid fun k hk => (hg6.block k (by simp; omega) (fun e => HO2.out.own.apart (by omega) e)).trans (HH3.out k hk)
                have HH7 : Hid (∀ k, k ≤ W.heap.size → (w6.setCell ⟨W.heap.size + 2, 4, none⟩ (.slice a6 (vs.length + 1) c6)).heap[k]? = wr.heap[k]?) := Lib.hid fun k hk => (Below.heap_setCell _ ⟨W.heap.size + 2, 4, none⟩ _ k (by show k ≠ W.heap.size + 2; omega)).trans (HH6.out k hk)
                have hb6 : Blk w6 (W.heap.size + 2) #[.int .i64 s, .bool o, .int .i64 n, .string ⟨t.toArray⟩, .slice la vs.length lc, .slice ka keys.length kc] 36 := (hg6.block (W.heap.size + 2) (by simp; omega) (fun e => HO2.out.own.apart (by omega) e)).trans (HO2.out.blk.alloc _)
                have hq6 := hb6.cell 4
                have hf6 := hb6.free 4
                clear hown6 hg6 hbk6 hb6
                refine hK.out _ _ ?_ (fun hHeld => ?_)
                · exact HS.out _ HH6.out
                try simp only [Act.put]
                try simp only [List.setIfInBounds_toArray]
                try simp only [List.set_cons_succ, List.set_cons_zero]
                refine wpAnyH_take (i := 10) (oi := ⟨some 33, _, _, _, _, _⟩) (v := ?_) rfl (by kernel_rfl) (by kernel_rfl) (by kernel_rfl) (fun _ _ _ h => h) (Or.inl ⟨by rfl, ?_⟩) (by assumption) ?_; rotate_left; focus (intro w hSw; (try dsimp only at hSw); first | (go_simp; done) | (go_simp; with_reducible rfl))
                try simp only [Act.put]
                try simp only [List.setIfInBounds_toArray]
                try simp only [List.set_cons_succ, List.set_cons_zero]
                refine wpAnyH_ready (rs := [11]) (by kernel_rfl) (by simp) ?_
                refine AllReadyH.cons (i := 11) (o := ⟨none, _, _, _, _, _⟩) rfl (fun K hK => ?_) ?_
                · go_simp
                  refine hK.out _ _ ?_ (fun hHeld => ?_)
                  · exact HS.out _ HH7.out
                  try simp only [Act.put]
                  try simp only [List.setIfInBounds_toArray]
                  try simp only [List.set_cons_succ, List.set_cons_zero]
                  refine wpAnyH_done (by kernel_rfl) ?_ _
                  have HN : Hid (OV 36 26 B W (w6.setCell ⟨W.heap.size + 2, 4, none⟩ (.slice a6 (vs.length + 1) c6)) (VD.mk s o n t (some ⟨eb, eo, none⟩) c ks ka kc keys) (vs ++ [d2]) a6 c6) := Lib.hid (HO1.out.push hBW HB2.out HVA2.out _ (by rw [List.flatMap_append, List.flatMap_singleton, cells_list]; exact HO6.out) HG6.out HK6.out)
                  go_wp2
                  go_roundw
                  case rel => exact ⟨vs ++ [d2], a6, c6, by rw [List.length_append]; exact hlt, by rw [List.length_append]; go_num, HN, Lib.hid (by rw [List.length_append, List.map_append, HE.out]; simp [HT.out, HD2.out])⟩
                  case measure => simp [intOf]; omega
                exact AllReadyH.nil
              exact AllReadyH.nil
            exact AllReadyH.nil
          exact AllReadyH.nil
        refine AllReadyH.cons (i := 7) (o := ⟨some 30, _, _, _, _, _⟩) rfl (fun K hK => ?_) ?_
        · go_simp
          refine Hc.out.mono ?_
          rintro e w2 ⟨d2, rfl, hd2, hva2, hb2⟩
          have HO2 := Lib.hid (HO1.out.ext hb2)
          have Hown2 := Lib.hid HO2.out.own
          have HB2 := Lib.hid hb2
          have HVA2 := Lib.hid hva2
          have HD2 := Lib.hid hd2
          have hws2 := HO2.out.blk.lt
          have hq2 := HO2.out.blk.cell 4
          have HH2 : Hid (∀ k, k ≤ W.heap.size → w2.heap[k]? = wr.heap[k]?) := Lib.hid fun k hk => hb2.block k (show k < wr.heap.size by omega)
          have hq3 := (HO2.out.blk.alloc (.cells #[.int .i64 d2.sort, .bool d2.on, .int .i64 d2.n, .string ⟨d2.text.toArray⟩, .slice d2.a d2.list.length d2.c, .slice d2.ka d2.keys.length d2.kc] 36)).cell 4
          have HH3 : Hid (∀ k, k ≤ W.heap.size → (w2.alloc (.cells #[.int .i64 d2.sort, .bool d2.on, .int .i64 d2.n, .string ⟨d2.text.toArray⟩, .slice d2.a d2.list.length d2.c, .slice d2.ka d2.keys.length d2.kc] 36)).heap[k]? = wr.heap[k]?) := Lib.hid fun k hk => (Below.heap_alloc _ _ k (by omega)).trans (HH2.out k hk)
          clear hb2 hva2 hd2
          refine hK.out _ _ ?_ (fun hHeld => ?_)
          · exact HS.out _ HH2.out
          try simp only [Act.put]
          try simp only [List.setIfInBounds_toArray]
          try simp only [List.set_cons_succ, List.set_cons_zero]
          refine wpAnyH_ready (rs := [1, 8]) (by kernel_rfl) (by simp) ?_
          refine AllReadyH.cons (i := 1) (o := ⟨some 24, _, _, _, _, _⟩) rfl (fun K hK => ?_) ?_
          · go_simp
            refine hK.out _ _ ?_ (fun hHeld => ?_)
            · exact hHeld
            try simp only [Act.put]
            try simp only [List.setIfInBounds_toArray]
            try simp only [List.set_cons_succ, List.set_cons_zero]
            refine wpAnyH_ready (rs := [8]) (by kernel_rfl) (by simp) ?_
            refine AllReadyH.cons (i := 8) (o := ⟨some 31, _, _, _, _, _⟩) rfl (fun K hK => ?_) ?_
            · go_simp
              refine hK.out _ _ ?_ (fun hHeld => ?_)
              · exact HS.out _ HH3.out
              try simp only [Act.put]
              try simp only [List.setIfInBounds_toArray]
              try simp only [List.set_cons_succ, List.set_cons_zero]
              refine wpAnyH_ready (rs := [9]) (by kernel_rfl) (by simp) ?_
              refine AllReadyH.cons (i := 9) (o := ⟨some 32, _, _, _, _, _⟩) rfl (fun K hK => ?_) ?_
              · refine step_append_Own rfl (.tmp 24) (.tmp 31) 34 rfl (W.heap.size + 3) 36 _ 6 88 Tryz.underlying34 Tryz.infoVal rfl (by decide) la vs.length lc _ (by simp [go_sem]) (by exact Hown2.out.alloc _) _ 1 1 [.int .i64 d2.sort, .bool d2.on, .int .i64 d2.n, .string ⟨d2.text.toArray⟩, .slice d2.a d2.list.length d2.c, .slice d2.ka d2.keys.length d2.kc] (by simp [go_sem]; rfl) (by exact Row.new1 (by simp) rfl rfl) (by intro u hu; simp at hu; rcases hu with rfl | rfl | rfl | rfl | rfl | rfl <;> rfl) (by unfold maxLen; omega) (by omega) (by simp; omega) ?_
                intro a6 c6 w6 hown6 hg6 hbk6
                have HO6 := Lib.hid hown6
                have HG6 := Lib.hid hg6
                have HK6 := Lib.hid hbk6
                have HH6 : Hid (∀ k, k ≤ W.heap.size → w6.heap[k]? = wr.heap[k]?) := Lib.hid fun k hk => (hg6.block k (by simp; omega) (fun e => HO2.out.own.apart (by omega) e)).trans (HH3.out k hk)
                have HH7 : Hid (∀ k, k ≤ W.heap.size → (w6.setCell ⟨W.heap.size + 2, 4, none⟩ (.slice a6 (vs.length + 1) c6)).heap[k]? = wr.heap[k]?) := Lib.hid fun k hk => (Below.heap_setCell _ ⟨W.heap.size + 2, 4, none⟩ _ k (by show k ≠ W.heap.size + 2; omega)).trans (HH6.out k hk)
                have hb6 : Blk w6 (W.heap.size + 2) #[.int .i64 s, .bool o, .int .i64 n, .string ⟨t.toArray⟩, .slice la vs.length lc, .slice ka keys.length kc] 36 := (hg6.block (W.heap.size + 2) (by simp; omega) (fun e => HO2.out.own.apart (by omega) e)).trans (HO2.out.blk.alloc _)
                have hq6 := hb6.cell 4
                have hf6 := hb6.free 4
                clear hown6 hg6 hbk6 hb6
                refine hK.out _ _ ?_ (fun hHeld => ?_)
                · exact HS.out _ HH6.out
                try simp only [Act.put]
                try simp only [List.setIfInBounds_toArray]
                try simp only [List.set_cons_succ, List.set_cons_zero]
                refine wpAnyH_take (i := 10) (oi := ⟨some 33, _, _, _, _, _⟩) (v := ?_) rfl (by kernel_rfl) (by kernel_rfl) (by kernel_rfl) (fun _ _ _ h => h) (Or.inl ⟨by rfl, ?_⟩) (by assumption) ?_; rotate_left; focus (intro w hSw; (try dsimp only at hSw); first | (go_simp; done) | (go_simp; with_reducible rfl))
                try simp only [Act.put]
                try simp only [List.setIfInBounds_toArray]
                try simp only [List.set_cons_succ, List.set_cons_zero]
                refine wpAnyH_ready (rs := [11]) (by kernel_rfl) (by simp) ?_
                refine AllReadyH.cons (i := 11) (o := ⟨none, _, _, _, _, _⟩) rfl (fun K hK => ?_) ?_
                · go_simp
                  refine hK.out _ _ ?_ (fun hHeld => ?_)
                  · exact HS.out _ HH7.out
                  try simp only [Act.put]
                  try simp only [List.setIfInBounds_toArray]
                  try simp only [List.set_cons_succ, List.set_cons_zero]
                  refine wpAnyH_done (by kernel_rfl) ?_ _
                  have HN : Hid (OV 36 26 B W (w6.setCell ⟨W.heap.size + 2, 4, none⟩ (.slice a6 (vs.length + 1) c6)) (VD.mk s o n t (some ⟨eb, eo, none⟩) c ks ka kc keys) (vs ++ [d2]) a6 c6) := Lib.hid (HO1.out.push hBW HB2.out HVA2.out _ (by rw [List.flatMap_append, List.flatMap_singleton, cells_list]; exact HO6.out) HG6.out HK6.out)
                  go_wp2
                  go_roundw
                  case rel => exact ⟨vs ++ [d2], a6, c6, by rw [List.length_append]; exact hlt, by rw [List.length_append]; go_num, HN, Lib.hid (by rw [List.length_append, List.map_append, HE.out]; simp [HT.out, HD2.out])⟩
                  case measure => simp [intOf]; omega
                exact AllReadyH.nil
              exact AllReadyH.nil
            exact AllReadyH.nil
          refine AllReadyH.cons (i := 8) (o := ⟨some 31, _, _, _, _, _⟩) rfl (fun K hK => ?_) ?_
          · go_simp
            refine hK.out _ _ ?_ (fun hHeld => ?_)
            · exact HS.out _ HH3.out
            try simp only [Act.put]
            try simp only [List.setIfInBounds_toArray]
            try simp only [List.set_cons_succ, List.set_cons_zero]
            refine wpAnyH_ready (rs := [1]) (by kernel_rfl) (by simp) ?_
            refine AllReadyH.cons (i := 1) (o := ⟨some 24, _, _, _, _, _⟩) rfl (fun K hK => ?_) ?_
            · go_simp
              refine hK.out _ _ ?_ (fun hHeld => ?_)
              · exact hHeld
              try simp only [Act.put]
              try simp only [List.setIfInBounds_toArray]
              try simp only [List.set_cons_succ, List.set_cons_zero]
              refine wpAnyH_ready (rs := [9]) (by kernel_rfl) (by simp) ?_
              refine AllReadyH.cons (i := 9) (o := ⟨some 32, _, _, _, _, _⟩) rfl (fun K hK => ?_) ?_
              · refine step_append_Own rfl (.tmp 24) (.tmp 31) 34 rfl (W.heap.size + 3) 36 _ 6 88 Tryz.underlying34 Tryz.infoVal rfl (by decide) la vs.length lc _ (by simp [go_sem]) (by exact Hown2.out.alloc _) _ 1 1 [.int .i64 d2.sort, .bool d2.on, .int .i64 d2.n, .string ⟨d2.text.toArray⟩, .slice d2.a d2.list.length d2.c, .slice d2.ka d2.keys.length d2.kc] (by simp [go_sem]; rfl) (by exact Row.new1 (by simp) rfl rfl) (by intro u hu; simp at hu; rcases hu with rfl | rfl | rfl | rfl | rfl | rfl <;> rfl) (by unfold maxLen; omega) (by omega) (by simp; omega) ?_
                intro a6 c6 w6 hown6 hg6 hbk6
                have HO6 := Lib.hid hown6
                have HG6 := Lib.hid hg6
                have HK6 := Lib.hid hbk6
                have HH6 : Hid (∀ k, k ≤ W.heap.size → w6.heap[k]? = wr.heap[k]?) := Lib.hid fun k hk => (hg6.block k (by simp; omega) (fun e => HO2.out.own.apart (by omega) e)).trans (HH3.out k hk)
                have HH7 : Hid (∀ k, k ≤ W.heap.size → (w6.setCell ⟨W.heap.size + 2, 4, none⟩ (.slice a6 (vs.length + 1) c6)).heap[k]? = wr.heap[k]?) := Lib.hid fun k hk => (Below.heap_setCell _ ⟨W.heap.size + 2, 4, none⟩ _ k (by show k ≠ W.heap.size + 2; omega)).trans (HH6.out k hk)
                have hb6 : Blk w6 (W.heap.size + 2) #[.int .i64 s, .bool o, .int .i64 n, .string ⟨t.toArray⟩, .slice la vs.length lc, .slice ka keys.length kc] 36 := (hg6.block (W.heap.size + 2) (by simp; omega) (fun e => HO2.out.own.apart (by omega) e)).trans (HO2.out.blk.alloc _)
                have hq6 := hb6.cell 4
                have hf6 := hb6.free 4
                clear hown6 hg6 hbk6 hb6
                refine hK.out _ _ ?_ (fun hHeld => ?_)
                · exact HS.out _ HH6.out
                try simp only [Act.put]
                try simp only [List.setIfInBounds_toArray]
                try simp only [List.set_cons_succ, List.set_cons_zero]
                refine wpAnyH_take (i := 10) (oi := ⟨some 33, _, _, _, _, _⟩) (v := ?_) rfl (by kernel_rfl) (by kernel_rfl) (by kernel_rfl) (fun _ _ _ h => h) (Or.inl ⟨by rfl, ?_⟩) (by assumption) ?_; rotate_left; focus (intro w hSw; (try dsimp only at hSw); first | (go_simp; done) | (go_simp; with_reducible rfl))
                try simp only [Act.put]
                try simp only [List.setIfInBounds_toArray]
                try simp only [List.set_cons_succ, List.set_cons_zero]
                refine wpAnyH_ready (rs := [11]) (by kernel_rfl) (by simp) ?_
                refine AllReadyH.cons (i := 11) (o := ⟨none, _, _, _, _, _⟩) rfl (fun K hK => ?_) ?_
                · go_simp
                  refine hK.out _ _ ?_ (fun hHeld => ?_)
                  · exact HS.out _ HH7.out
                  try simp only [Act.put]
                  try simp only [List.setIfInBounds_toArray]
                  try simp only [List.set_cons_succ, List.set_cons_zero]
                  refine wpAnyH_done (by kernel_rfl) ?_ _
                  have HN : Hid (OV 36 26 B W (w6.setCell ⟨W.heap.size + 2, 4, none⟩ (.slice a6 (vs.length + 1) c6)) (VD.mk s o n t (some ⟨eb, eo, none⟩) c ks ka kc keys) (vs ++ [d2]) a6 c6) := Lib.hid (HO1.out.push hBW HB2.out HVA2.out _ (by rw [List.flatMap_append, List.flatMap_singleton, cells_list]; exact HO6.out) HG6.out HK6.out)
                  go_wp2
                  go_roundw
                  case rel => exact ⟨vs ++ [d2], a6, c6, by rw [List.length_append]; exact hlt, by rw [List.length_append]; go_num, HN, Lib.hid (by rw [List.length_append, List.map_append, HE.out]; simp [HT.out, HD2.out])⟩
                  case measure => simp [intOf]; omega
                exact AllReadyH.nil
              exact AllReadyH.nil
            exact AllReadyH.nil
          exact AllReadyH.nil
        exact AllReadyH.nil
      · have hlen : vs.length = ks.length := by omega
        have HF := Lib.hid (HO.out.fin hBW HV.out (by rw [HE.out, hlen, List.take_length]; rfl))
        have y := HO.out.blk.sixT
        obtain ⟨y0, y1, y2, y3, y4, y5⟩ := y
        have f0 := HO.out.res.free 0
        have f1 := HO.out.res.free 1
        have f2 := HO.out.res.free 2
        have f3 := HO.out.res.free 3
        have f4 := HO.out.res.free 4
        have f5 := HO.out.res.free 5
        have a4 : wr.cell? ⟨W.heap.size, 4, none⟩ = some (.slice a ks.length c) := HO.out.arg.cell 4
        have z := HO.out.res.sixT
        obtain ⟨z0, z1, z2, z3, z4, z5⟩ := z
        have hrl := HO.out.res.lt
        clear HE hlen
        go_wp2
        refine of_end (g := W.heap.size + 1) rfl (store6 HO.out.res) ?_
        exact HF.out
end Go.Proofs.YthnbeebilomchaaGreatDoor
