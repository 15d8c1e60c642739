/- RpcWrites, where what it reads is of bulk at most 1048576: the law answers true, and its arguments read as they did. Conditions: none but what the card ties. Ahead of it: A message, and Write, the document's: walked. Write, the document's: walked. RpcWrites: the law, walked. From the row's condition on the package-level variables to what the walks ask. -/
import Derived.Test.YthnbeebilomchaaGreatDoorMw6
import Derived.Test.YthnbeebilomchaaGreatDoorMw5
import Derived.Test.YthnbeebilomchaaGreatDoorMw1
import Derived.Test.YthnbeebilomchaaGreatDoorRows
import Derived.Lib.LaidU8T
import Derived.ProofKit
import Derived.OpenShut
import Derived.LaidMore
import Derived.Lay
import Derived.Stop.Joined
import Derived.Stop.LaidErr
import Derived.Lib.LaidTab
import Derived.Test.YthnbeebilomchaaGreatDoorTie
import Derived.Test.YthnbeebilomchaaGreatDoorCards
import Derived.SevenTiedAt
import Derived.Deep.DeepHandedRow
namespace Go.Proofs.YthnbeebilomchaaGreatDoor
open Go Go.RowKit

theorem messageR_end {W : World} {tm : Array Value} {R : Ending → World → Prop} {g : Nat} {u0 u1 u2 u3 u4 u5 : Value} (h2 : tm.getD 2 undef = .pointer (some ⟨g, 0, none⟩)) (hB : Blk W g #[u0, u1, u2, u3, u4, u5] 26)
    (hR : R (.returned (.agg #[u0, u1, u2, u3, u4, u5])) W) : bodyPost Tryz.prog Tryz.f34 R .ret { tmps := tm, defers := [] } W := by
  have d0 := hB.cell 0
  have d1 := hB.cell 1
  have d2 := hB.cell 2
  have d3 := hB.cell 3
  have d4 := hB.cell 4
  have d5 := hB.cell 5
  simp only [List.getElem?_toArray, List.getElem?_cons_zero, List.getElem?_cons_succ] at d0 d1 d2 d3 d4 d5
  rw [Array.getD_eq_getD_getElem?] at h2
  refine bodyPost_ret (v := .agg #[u0, u1, u2, u3, u4, u5]) ?_ rfl hR
  simp [results, Tryz.results34, go_sem, h2, d0, d1, d2, d3, d4, d5]
set_option maxHeartbeats 16000000 in
set_option maxRecDepth 20000 in
theorem messageR_any (P : Nat → Prop) (c : CD) (w : World) (hP : ∀ g, w.heap.size ≤ g → P g) (h1 : 1 ≤ c.kind) (h9 : c.kind ≤ 9) (hi : ValAt w P c.id) (hc : ValAt w P c.other) (hrow : Row w 6 c.a c.changes.length (c.changes.flatMap E.cells)) (hn : c.changes.length ≤ 1048576) :
  Calls Tryz.prog 34 #[.agg (cdC c)] w (DocP w P (msgW c.k)) := by
 obtain ⟨W1, hW1⟩ : ∃ q, q = (w.alloc (.cells (cdC c) 31)).alloc (.cells #[.int .i64 0, .bool false, .int .i64 0, .string { data := #[] }, .slice none 0 0, .slice none 0 0] 26) := ⟨_, rfl⟩
 have hb0 : Below w.heap.size w W1 := by rw [hW1]; exact (below_a1 w _).alloc (by simp) _
 have HL : Hid (Below w.heap.size w W1 ∧ Blk W1 w.heap.size (cdC c) 31 ∧ Blk W1 (w.heap.size + 1) #[.int .i64 0, .bool false, .int .i64 0, .string { data := #[] }, .slice none 0 0, .slice none 0 0] 26) := Lib.hid ⟨hb0, by rw [hW1]; exact (Blk.new rfl).alloc _, by rw [hW1]; exact Blk.new (by simp)⟩
 have HP := Lib.hid hP
 have HIV : Hid (ValAt w (fun g => P g ∧ g < w.heap.size) c.id) := Lib.hid (hi.mono fun g h1 h2 => ⟨h1, h2⟩)
 have HOV : Hid (ValAt w (fun g => P g ∧ g < w.heap.size) c.other) := Lib.hid (hc.mono fun g h1 h2 => ⟨h1, h2⟩)
 have HCR := Lib.hid hrow
 have HCL := Lib.hid hn
 have HK := Lib.hid (And.intro h1 h9)
 obtain ⟨kd, hkd⟩ : ∃ q, q = c.kind := ⟨_, rfl⟩
 have HKD := Lib.hid hkd
 obtain ⟨ids, hids⟩ : ∃ q, q = c.id.sort := ⟨_, rfl⟩
 have HIDS := Lib.hid hids
 clear hb0 hP hi hc hrow hn h1 h9 hkd hids
 go_enter Tryz.func34, Tryz.ntmps34
 go_upto_region 1 with (fail)
 rw [← hW1]
 clear hW1
 have hwl := HL.out.2.1.lt
 go_wp2_with fail
 have h1 := strR_any v20 (W1.alloc (.cells #[strV kJson] 9))
 refine h1.mono ?_
 clear h1
 rintro e W2 ⟨rfl, hb1⟩
 clear hwl
 obtain ⟨gk, hgk⟩ : ∃ q, q = W1.heap.size := ⟨_, rfl⟩
 have hb : Below W1.heap.size W1 W2 := (below_a1 W1 (.cells #[strV kJson] 9)).trans (hb1.mono (by simp))
 have hkb : Blk W2 gk #[strV kJson] 9 := by rw [hgk]; exact (Blk.new rfl).ext hb1
 have HGK : Hid (w.heap.size + 2 ≤ gk) := Lib.hid (by rw [hgk]; exact HL.out.2.2.lt)
 obtain ⟨gl, hgl⟩ : ∃ q, q = W2.heap.size := ⟨_, rfl⟩
 obtain ⟨W3, hQ⟩ : ∃ q, q = W2.alloc (.cells #[.int .i64 3, .bool false, .int .i64 0, .string ⟨v20.toArray⟩, .slice none 0 0, .slice none 0 0] 26) := ⟨_, rfl⟩
 have hb2 : Below W2.heap.size W2 W3 := by rw [hQ]; exact below_a1 _ _
 have HS : Hid (ToS w (fun k => P k ∧ k ≠ w.heap.size + 1) c (some ⟨gk, 0, none⟩) 1 [kJson] (some ⟨gl, 0, none⟩) 1 [strD v20] W3) := Lib.hid ⟨(HL.out.1.trans (hb.mono HL.out.1.size)).trans (hb2.mono (by have := hb.size; have := HL.out.1.size; omega)), (HL.out.2.1.ext hb).ext hb2, (HL.out.2.2.ext hb).ext hb2, own_blk (hkb.ext hb2) HGK.out rfl (by simp [maxLen]), own_blk (n := 1) (cs := (strD v20).cells.toArray) (T := 26) (by rw [hQ, hgl]; exact Blk.new rfl) (by have := (HL.out.2.2.ext hb).lt; omega) rfl (by simp [maxLen]), fun y hy => by
  rw [List.mem_singleton] at hy; subst hy; exact .leaf⟩
 clear hb hb1 hb2 hkb HL HGK
 go_upto_region 3 with (fail)
 rw [← hgk, ← hQ, ← hgl]
 clear hgk hgl hQ
 have c1 : W3.cell? ⟨w.heap.size, 1, none⟩ = some (.int .i64 ids) := by rw [HIDS.out]; exact HS.out.cb.cell 1
 by_cases hz : ids = 0
 ·
  have HZ := Lib.hid hz
  have hz2 : (ids == 0) = true := by simpa using hz
  clear hz
  go_upto_region 6 with (fail)
  clear c1 hz2
  have HO : Hid (Own (W3.alloc (.cells #[strV kMethod] 9)) (w.heap.size + 2) 9 1 (some ⟨gk, 0, none⟩) 1 1 ([kJson].map strV)) := Lib.hid (HS.out.ko.ext (below_a1 _ _))
  have HMS : Hid (w.heap.size + 2 ≤ (W3.alloc (.cells #[strV kMethod] 9)).heap.size) := Lib.hid (by have := HS.out.sz; simp; omega)
  have HA : Hid (∀ a' k' W', Own W' (w.heap.size + 2) 9 1 a' (1 + 1) k' ([kJson].map strV ++ [strV kMethod]) → (W3.alloc (.cells #[strV kMethod] 9)).grownBy W' (rowOf (some ⟨gk, 0, none⟩) 1) → (rowOf a' k' = rowOf (some ⟨gk, 0, none⟩) 1 ∨ rowOf a' k' = some (W3.alloc (.cells #[strV kMethod] 9)).heap.size) → ToS w (fun k => P k ∧ k ≠ w.heap.size + 1) c a' k' ([kJson] ++ [kMethod]) (some ⟨gl, 0, none⟩) 1 [strD v20] W') := Lib.hid fun a' k' W' h1 h2 h3 => (HS.out.ext (below_a1 _ _)).appK h1 h2 h3
  go_upto_region 7 with (at_builtin; refine wpList_append_Own rfl _ _ 24 rfl (w.heap.size + 2) 9 _ 1 16 Tryz.underlying24 Tryz.infoStr rfl (by decide) (some ⟨gk, 0, none⟩) 1 1 _ rfl HO.out (some ⟨W3.heap.size, 0, none⟩) 1 1 [strV kMethod] rfl (row_blk (Blk.new rfl) rfl) (by intro u hu; simp at hu; subst hu; rfl) (by simp [maxLen]) (by simp) HMS.out ?_; intro aWm cWm Wm ho5 hg5 hb5; have HSn := Lib.hid (HA.out _ _ _ ho5 hg5 hb5); clear ho5 hg5 hb5)
  clear HO HMS HA HS
  have HS := HSn
  clear HSn
  simp only [List.cons_append, List.nil_append] at HS
  have c0 : Wm.cell? ⟨w.heap.size, 0, none⟩ = some (.int .i64 kd) := by rw [HKD.out]; exact HS.out.cb.cell 0
  obtain ⟨kn, hkn⟩ : ∃ q : Nat, kd = q := ⟨kd.toNat, by have := HK.out; rw [← HKD.out] at this; omega⟩
  have hk10 : kn < 10 := by have := HK.out; rw [← HKD.out] at this; omega
  have HKN := Lib.hid hkn
  rw [hkn] at c0
  clear hkn
  go_wp2_with fail
  refine (methodR_any kn Wm hk10).mono ?_
  rintro e Wn ⟨rfl, hb⟩
  have HSn := Lib.hid (HS.out.ext hb)
  clear HS hb c0
  have HS := HSn
  clear HSn
  obtain ⟨mn, hmn⟩ : ∃ q, q = methodN kn := ⟨_, rfl⟩
  have HMN := Lib.hid hmn
  rw [← hmn]
  clear hmn
  go_wp2_with fail
  refine (strR_any mn Wn).mono ?_
  rintro e Wo ⟨rfl, hb⟩
  have HSn := Lib.hid (HS.out.ext hb)
  clear HS hb hk10
  have HS := HSn
  clear HSn
  have HO : Hid (Own (Wo.alloc (.cells #[.int .i64 3, .bool false, .int .i64 0, .string ⟨mn.toArray⟩, .slice none 0 0, .slice none 0 0] 26)) (w.heap.size + 2) 26 6 (some ⟨gl, 0, none⟩) 1 1 ([strD v20].flatMap VD.cells)) := Lib.hid (HS.out.lo.ext (below_a1 _ _))
  have HMS : Hid (w.heap.size + 2 ≤ (Wo.alloc (.cells #[.int .i64 3, .bool false, .int .i64 0, .string ⟨mn.toArray⟩, .slice none 0 0, .slice none 0 0] 26)).heap.size) := Lib.hid (by have := HS.out.sz; simp; omega)
  have HRW : Hid (Row (Wo.alloc (.cells #[.int .i64 3, .bool false, .int .i64 0, .string ⟨mn.toArray⟩, .slice none 0 0, .slice none 0 0] 26)) 6 (some ⟨Wo.heap.size, 0, none⟩) 1 (strD mn).cells) := Lib.hid (row_blk (T := 26) (by exact Blk.new rfl) (strD mn).len)
  have HPV : Hid (ValAt (Wo.alloc (.cells #[.int .i64 3, .bool false, .int .i64 0, .string ⟨mn.toArray⟩, .slice none 0 0, .slice none 0 0] 26)) (fun k => (P k ∧ k ≠ w.heap.size + 1) ∧ rowOf (some ⟨gl, 0, none⟩) 1 ≠ some k ∧ rowOf aWm cWm ≠ some k) (strD mn)) := Lib.hid (.leaf)
  have HA : Hid (∀ a' k' W', Own W' (w.heap.size + 2) 26 6 a' (1 + 1) k' ([strD v20].flatMap VD.cells ++ (strD mn).cells) → (Wo.alloc (.cells #[.int .i64 3, .bool false, .int .i64 0, .string ⟨mn.toArray⟩, .slice none 0 0, .slice none 0 0] 26)).grownBy W' (rowOf (some ⟨gl, 0, none⟩) 1) → (rowOf a' k' = rowOf (some ⟨gl, 0, none⟩) 1 ∨ rowOf a' k' = some (Wo.alloc (.cells #[.int .i64 3, .bool false, .int .i64 0, .string ⟨mn.toArray⟩, .slice none 0 0, .slice none 0 0] 26)).heap.size) → ToS w (fun k => P k ∧ k ≠ w.heap.size + 1) c aWm cWm [kJson, kMethod] a' k' ([strD v20] ++ [strD mn]) W') := Lib.hid fun a' k' W' h1 h2 h3 => (HS.out.ext (below_a1 _ _)).appL HPV.out h1 h2 h3
  go_upto_region 8 with (at_builtin; refine wpList_append_Own rfl _ _ 23 rfl (w.heap.size + 2) 26 _ 6 88 Tryz.underlying23 Tryz.infoDoc rfl (by decide) (some ⟨gl, 0, none⟩) 1 1 _ rfl HO.out (some ⟨Wo.heap.size, 0, none⟩) 1 1 (strD mn).cells rfl HRW.out (by intro u hu; simp [strD, VD.cells, strV] at hu; rcases hu with rfl | rfl | rfl | rfl | rfl | rfl <;> rfl) (by simp [maxLen]) (by simp) HMS.out ?_; intro aWp cWp Wp ho5 hg5 hb5; have HSn := Lib.hid (HA.out _ _ _ ho5 hg5 hb5); clear ho5 hg5 hb5)
  clear HO HMS HA HS HRW HPV
  have HS := HSn
  clear HSn
  simp only [List.cons_append, List.nil_append] at HS
  have c0 : Wp.cell? ⟨w.heap.size, 0, none⟩ = some (.int .i64 kn) := by rw [← HKN.out, HKD.out]; exact HS.out.cb.cell 0
  by_cases h3 : kn ≤ 3
  ·
   have H3 := Lib.hid h3
   go_upto_region 11 with (fail)
   clear c0 h3
   go_wp2_with fail
   refine (recR_any aWm aWp 2 cWm 2 cWp Wp).mono ?_
   rintro e Wz ⟨rfl, hb⟩
   have HSz := Lib.hid (HS.out.ext hb)
   clear HS hb
   have f0 := HSz.out.rb.free 0
   have f1 := HSz.out.rb.free 1
   have f2 := HSz.out.rb.free 2
   have f3 := HSz.out.rb.free 3
   have f4 := HSz.out.rb.free 4
   have f5 := HSz.out.rb.free 5
   obtain ⟨z0, z1, z2, z3, z4, z5⟩ := HSz.out.rb.sixT
   go_wp2
   refine messageR_end (g := w.heap.size + 1) rfl (store6T HSz.out.rb) ?_
   refine ⟨.mk 5 false 0 [] aWp cWp [strD v20, strD mn] aWm cWm [kJson, kMethod], rfl, ?_, ((HSz.out.rcd (fun g hg => ⟨HP.out g (by omega), by omega⟩)).congr fun g hg _ => put6_other hg.2).mono fun g hg _ => hg.1, put6_below (o := 0) HSz.out.below (by omega)⟩
   have hkk : c.k.kind = kn := by show c.kind.toNat = kn; rw [← HKD.out, HKN.out]; rfl
   have hid : c.k.id.sort = ids := by rw [HIDS.out]; exact vd_sort c.id
   rw [VD.v_eq]
   unfold msgW
   rw [hid, if_pos HZ.out, hkk, if_neg (by have := H3.out; omega)]
   simp only [VD.list, VD.keys, VD.sort, VD.on, VD.n, VD.text, List.map_cons, List.map_nil, List.cons_append, List.nil_append, recW, HMN.out]
   rfl
  ·
   have H3 := Lib.hid h3
   go_upto_region 9 with (fail)
   clear c0 h3
   have HO : Hid (Own (Wp.alloc (.cells #[strV kParams] 9)) (w.heap.size + 2) 9 1 aWm 2 cWm ([kJson, kMethod].map strV)) := Lib.hid (HS.out.ko.ext (below_a1 _ _))
   have HMS : Hid (w.heap.size + 2 ≤ (Wp.alloc (.cells #[strV kParams] 9)).heap.size) := Lib.hid (by have := HS.out.sz; simp; omega)
   have HA : Hid (∀ a' k' W', Own W' (w.heap.size + 2) 9 1 a' (2 + 1) k' ([kJson, kMethod].map strV ++ [strV kParams]) → (Wp.alloc (.cells #[strV kParams] 9)).grownBy W' (rowOf aWm cWm) → (rowOf a' k' = rowOf aWm cWm ∨ rowOf a' k' = some (Wp.alloc (.cells #[strV kParams] 9)).heap.size) → ToS w (fun k => P k ∧ k ≠ w.heap.size + 1) c a' k' ([kJson, kMethod] ++ [kParams]) aWp cWp [strD v20, strD mn] W') := Lib.hid fun a' k' W' h1 h2 h3 => (HS.out.ext (below_a1 _ _)).appK h1 h2 h3
   go_upto_region 10 with (at_builtin; refine wpList_append_Own rfl _ _ 24 rfl (w.heap.size + 2) 9 _ 1 16 Tryz.underlying24 Tryz.infoStr rfl (by decide) aWm 2 cWm _ rfl HO.out (some ⟨Wp.heap.size, 0, none⟩) 1 1 [strV kParams] rfl (row_blk (Blk.new rfl) rfl) (by intro u hu; simp at hu; subst hu; rfl) (by simp [maxLen]) (by simp) HMS.out ?_; intro aWq cWq Wq ho5 hg5 hb5; have HSn := Lib.hid (HA.out _ _ _ ho5 hg5 hb5); clear ho5 hg5 hb5)
   clear HO HMS HA HS
   have HS := HSn
   clear HSn
   simp only [List.cons_append, List.nil_append] at HS
   have hto := toldR_any (fun k => (P k ∧ k ≠ w.heap.size + 1) ∧ rowOf aWp cWp ≠ some k ∧ rowOf aWq cWq ≠ some k) c Wq (fun g hg => ⟨⟨HP.out g (Nat.le_trans HS.out.below.size hg), by have := HS.out.sz; omega⟩, HS.out.fresh hg⟩) (by have := HKN.out; have := H3.out; rw [← HKD.out]; omega) HK.out.2 ((HOV.out.mono fun g hg _ => ⟨⟨hg.1, by have := hg.2; omega⟩, HS.out.old (by have := hg.2; omega)⟩).ext HS.out.below) (HCR.out.ext HS.out.below) HCL.out
   have HTO := Lib.hid hto
   clear hto
   go_wp2_with ((with_reducible show wpList _ _ _ (⟨some 37, _, _, _, _, _⟩ :: _) _ _); refine load_doc rfl _ rfl w.heap.size rfl c HS.out.cb ?_)
   refine HTO.out.mono ?_
   clear HTO
   rintro e Wr ⟨tv, rfl, htv, hta, hb⟩
   have HSn := Lib.hid (HS.out.ext hb)
   have HTV := Lib.hid htv
   have HTA := Lib.hid hta
   clear HS hb htv hta
   have HS := HSn
   clear HSn
   have HO : Hid (Own (Wr.alloc (.cells #[.int .i64 tv.sort, .bool tv.on, .int .i64 tv.n, .string ⟨tv.text.toArray⟩, .slice tv.a tv.list.length tv.c, .slice tv.ka tv.keys.length tv.kc] 26)) (w.heap.size + 2) 26 6 aWp 2 cWp ([strD v20, strD mn].flatMap VD.cells)) := Lib.hid (HS.out.lo.ext (below_a1 _ _))
   have HMS : Hid (w.heap.size + 2 ≤ (Wr.alloc (.cells #[.int .i64 tv.sort, .bool tv.on, .int .i64 tv.n, .string ⟨tv.text.toArray⟩, .slice tv.a tv.list.length tv.c, .slice tv.ka tv.keys.length tv.kc] 26)).heap.size) := Lib.hid (by have := HS.out.sz; simp; omega)
   have HRW : Hid (Row (Wr.alloc (.cells #[.int .i64 tv.sort, .bool tv.on, .int .i64 tv.n, .string ⟨tv.text.toArray⟩, .slice tv.a tv.list.length tv.c, .slice tv.ka tv.keys.length tv.kc] 26)) 6 (some ⟨Wr.heap.size, 0, none⟩) 1 (tv).cells) := Lib.hid (row_blk (T := 26) (by rw [val_arr]; exact Blk.new rfl) (tv).len)
   have HPV : Hid (ValAt (Wr.alloc (.cells #[.int .i64 tv.sort, .bool tv.on, .int .i64 tv.n, .string ⟨tv.text.toArray⟩, .slice tv.a tv.list.length tv.c, .slice tv.ka tv.keys.length tv.kc] 26)) (fun k => (P k ∧ k ≠ w.heap.size + 1) ∧ rowOf aWp cWp ≠ some k ∧ rowOf aWq cWq ≠ some k) (tv)) := Lib.hid (HTA.out.ext (below_a1 _ _))
   have HA : Hid (∀ a' k' W', Own W' (w.heap.size + 2) 26 6 a' (2 + 1) k' ([strD v20, strD mn].flatMap VD.cells ++ (tv).cells) → (Wr.alloc (.cells #[.int .i64 tv.sort, .bool tv.on, .int .i64 tv.n, .string ⟨tv.text.toArray⟩, .slice tv.a tv.list.length tv.c, .slice tv.ka tv.keys.length tv.kc] 26)).grownBy W' (rowOf aWp cWp) → (rowOf a' k' = rowOf aWp cWp ∨ rowOf a' k' = some (Wr.alloc (.cells #[.int .i64 tv.sort, .bool tv.on, .int .i64 tv.n, .string ⟨tv.text.toArray⟩, .slice tv.a tv.list.length tv.c, .slice tv.ka tv.keys.length tv.kc] 26)).heap.size) → ToS w (fun k => P k ∧ k ≠ w.heap.size + 1) c aWq cWq [kJson, kMethod, kParams] a' k' ([strD v20, strD mn] ++ [tv]) W') := Lib.hid fun a' k' W' h1 h2 h3 => (HS.out.ext (below_a1 _ _)).appL HPV.out h1 h2 h3
   go_upto_region 11 with (at_builtin; refine wpList_append_Own rfl _ _ 23 rfl (w.heap.size + 2) 26 _ 6 88 Tryz.underlying23 Tryz.infoDoc rfl (by decide) aWp 2 cWp _ rfl HO.out (some ⟨Wr.heap.size, 0, none⟩) 1 1 (tv).cells rfl HRW.out (by rw [val_list]; intro u hu; simp at hu; rcases hu with rfl | rfl | rfl | rfl | rfl | rfl <;> rfl) (by simp [maxLen]) (by simp) HMS.out ?_; intro aWs cWs Ws ho5 hg5 hb5; have HSn := Lib.hid (HA.out _ _ _ ho5 hg5 hb5); clear ho5 hg5 hb5)
   clear HO HMS HA HS HRW HPV
   have HS := HSn
   clear HSn
   simp only [List.cons_append, List.nil_append] at HS
   go_wp2_with fail
   refine (recR_any aWq aWs 3 cWq 3 cWs Ws).mono ?_
   rintro e Wz ⟨rfl, hb⟩
   have HSz := Lib.hid (HS.out.ext hb)
   clear HS hb
   have f0 := HSz.out.rb.free 0
   have f1 := HSz.out.rb.free 1
   have f2 := HSz.out.rb.free 2
   have f3 := HSz.out.rb.free 3
   have f4 := HSz.out.rb.free 4
   have f5 := HSz.out.rb.free 5
   obtain ⟨z0, z1, z2, z3, z4, z5⟩ := HSz.out.rb.sixT
   go_wp2
   refine messageR_end (g := w.heap.size + 1) rfl (store6T HSz.out.rb) ?_
   refine ⟨.mk 5 false 0 [] aWs cWs [strD v20, strD mn, tv] aWq cWq [kJson, kMethod, kParams], rfl, ?_, ((HSz.out.rcd (fun g hg => ⟨HP.out g (by omega), by omega⟩)).congr fun g hg _ => put6_other hg.2).mono fun g hg _ => hg.1, put6_below (o := 0) HSz.out.below (by omega)⟩
   have hkk : c.k.kind = kn := by show c.kind.toNat = kn; rw [← HKD.out, HKN.out]; rfl
   have hid : c.k.id.sort = ids := by rw [HIDS.out]; exact vd_sort c.id
   rw [VD.v_eq]
   unfold msgW
   rw [hid, if_pos HZ.out, hkk, if_pos (by have := H3.out; omega)]
   simp only [VD.list, VD.keys, VD.sort, VD.on, VD.n, VD.text, List.map_cons, List.map_nil, List.cons_append, List.nil_append, recW, HTV.out, HMN.out]
   rfl
 ·
  have HZ := Lib.hid hz
  have hz2 : (ids == 0) = false := by simpa using hz
  clear hz
  go_upto_region 4 with (fail)
  clear c1 hz2
  have HO : Hid (Own (W3.alloc (.cells #[strV kId] 9)) (w.heap.size + 2) 9 1 (some ⟨gk, 0, none⟩) 1 1 ([kJson].map strV)) := Lib.hid (HS.out.ko.ext (below_a1 _ _))
  have HMS : Hid (w.heap.size + 2 ≤ (W3.alloc (.cells #[strV kId] 9)).heap.size) := Lib.hid (by have := HS.out.sz; simp; omega)
  have HA : Hid (∀ a' k' W', Own W' (w.heap.size + 2) 9 1 a' (1 + 1) k' ([kJson].map strV ++ [strV kId]) → (W3.alloc (.cells #[strV kId] 9)).grownBy W' (rowOf (some ⟨gk, 0, none⟩) 1) → (rowOf a' k' = rowOf (some ⟨gk, 0, none⟩) 1 ∨ rowOf a' k' = some (W3.alloc (.cells #[strV kId] 9)).heap.size) → ToS w (fun k => P k ∧ k ≠ w.heap.size + 1) c a' k' ([kJson] ++ [kId]) (some ⟨gl, 0, none⟩) 1 [strD v20] W') := Lib.hid fun a' k' W' h1 h2 h3 => (HS.out.ext (below_a1 _ _)).appK h1 h2 h3
  go_upto_region 5 with (at_builtin; refine wpList_append_Own rfl _ _ 24 rfl (w.heap.size + 2) 9 _ 1 16 Tryz.underlying24 Tryz.infoStr rfl (by decide) (some ⟨gk, 0, none⟩) 1 1 _ rfl HO.out (some ⟨W3.heap.size, 0, none⟩) 1 1 [strV kId] rfl (row_blk (Blk.new rfl) rfl) (by intro u hu; simp at hu; subst hu; rfl) (by simp [maxLen]) (by simp) HMS.out ?_; intro aWi cWi Wi ho5 hg5 hb5; have HSn := Lib.hid (HA.out _ _ _ ho5 hg5 hb5); clear ho5 hg5 hb5)
  clear HO HMS HA HS
  have HS := HSn
  clear HSn
  simp only [List.cons_append, List.nil_append] at HS
  have HO : Hid (Own (Wi.alloc (.cells #[.int .i64 c.id.sort, .bool c.id.on, .int .i64 c.id.n, .string ⟨c.id.text.toArray⟩, .slice c.id.a c.id.list.length c.id.c, .slice c.id.ka c.id.keys.length c.id.kc] 26)) (w.heap.size + 2) 26 6 (some ⟨gl, 0, none⟩) 1 1 ([strD v20].flatMap VD.cells)) := Lib.hid (HS.out.lo.ext (below_a1 _ _))
  have HMS : Hid (w.heap.size + 2 ≤ (Wi.alloc (.cells #[.int .i64 c.id.sort, .bool c.id.on, .int .i64 c.id.n, .string ⟨c.id.text.toArray⟩, .slice c.id.a c.id.list.length c.id.c, .slice c.id.ka c.id.keys.length c.id.kc] 26)).heap.size) := Lib.hid (by have := HS.out.sz; simp; omega)
  have HRW : Hid (Row (Wi.alloc (.cells #[.int .i64 c.id.sort, .bool c.id.on, .int .i64 c.id.n, .string ⟨c.id.text.toArray⟩, .slice c.id.a c.id.list.length c.id.c, .slice c.id.ka c.id.keys.length c.id.kc] 26)) 6 (some ⟨Wi.heap.size, 0, none⟩) 1 (c.id).cells) := Lib.hid (row_blk (T := 26) (by rw [val_arr]; exact Blk.new rfl) (c.id).len)
  have HPV : Hid (ValAt (Wi.alloc (.cells #[.int .i64 c.id.sort, .bool c.id.on, .int .i64 c.id.n, .string ⟨c.id.text.toArray⟩, .slice c.id.a c.id.list.length c.id.c, .slice c.id.ka c.id.keys.length c.id.kc] 26)) (fun k => (P k ∧ k ≠ w.heap.size + 1) ∧ rowOf (some ⟨gl, 0, none⟩) 1 ≠ some k ∧ rowOf aWi cWi ≠ some k) (c.id)) := Lib.hid ((HIV.out.mono fun g hg _ => ⟨⟨hg.1, by have := hg.2; omega⟩, HS.out.old (by have := hg.2; omega)⟩).ext (HS.out.below.trans ((below_a1 Wi _).mono HS.out.below.size)))
  have HA : Hid (∀ a' k' W', Own W' (w.heap.size + 2) 26 6 a' (1 + 1) k' ([strD v20].flatMap VD.cells ++ (c.id).cells) → (Wi.alloc (.cells #[.int .i64 c.id.sort, .bool c.id.on, .int .i64 c.id.n, .string ⟨c.id.text.toArray⟩, .slice c.id.a c.id.list.length c.id.c, .slice c.id.ka c.id.keys.length c.id.kc] 26)).grownBy W' (rowOf (some ⟨gl, 0, none⟩) 1) → (rowOf a' k' = rowOf (some ⟨gl, 0, none⟩) 1 ∨ rowOf a' k' = some (Wi.alloc (.cells #[.int .i64 c.id.sort, .bool c.id.on, .int .i64 c.id.n, .string ⟨c.id.text.toArray⟩, .slice c.id.a c.id.list.length c.id.c, .slice c.id.ka c.id.keys.length c.id.kc] 26)).heap.size) → ToS w (fun k => P k ∧ k ≠ w.heap.size + 1) c aWi cWi [kJson, kId] a' k' ([strD v20] ++ [c.id]) W') := Lib.hid fun a' k' W' h1 h2 h3 => (HS.out.ext (below_a1 _ _)).appL HPV.out h1 h2 h3
  have i1 : Wi.cell? ⟨w.heap.size, 1, none⟩ = some (.int .i64 c.id.sort) := HS.out.cb.cell 1
  have i2 : Wi.cell? ⟨w.heap.size, 2, none⟩ = some (.bool c.id.on) := HS.out.cb.cell 2
  have i3 : Wi.cell? ⟨w.heap.size, 3, none⟩ = some (.int .i64 c.id.n) := HS.out.cb.cell 3
  have i4 : Wi.cell? ⟨w.heap.size, 4, none⟩ = some (.string ⟨c.id.text.toArray⟩) := HS.out.cb.cell 4
  have i5 : Wi.cell? ⟨w.heap.size, 5, none⟩ = some (.slice c.id.a c.id.list.length c.id.c) := HS.out.cb.cell 5
  have i6 : Wi.cell? ⟨w.heap.size, 6, none⟩ = some (.slice c.id.ka c.id.keys.length c.id.kc) := HS.out.cb.cell 6
  go_upto_region 6 with (at_builtin; refine wpList_append_Own rfl _ _ 23 rfl (w.heap.size + 2) 26 _ 6 88 Tryz.underlying23 Tryz.infoDoc rfl (by decide) (some ⟨gl, 0, none⟩) 1 1 _ rfl HO.out (some ⟨Wi.heap.size, 0, none⟩) 1 1 (c.id).cells rfl HRW.out (by rw [val_list]; intro u hu; simp at hu; rcases hu with rfl | rfl | rfl | rfl | rfl | rfl <;> rfl) (by simp [maxLen]) (by simp) HMS.out ?_; intro aWj cWj Wj ho5 hg5 hb5; have HSn := Lib.hid (HA.out _ _ _ ho5 hg5 hb5); clear ho5 hg5 hb5)
  clear HO HMS HA HS HRW HPV
  have HS := HSn
  clear HSn
  simp only [List.cons_append, List.nil_append] at HS
  clear i1 i2 i3 i4 i5 i6
  have HO : Hid (Own (Wj.alloc (.cells #[strV kMethod] 9)) (w.heap.size + 2) 9 1 aWi 2 cWi ([kJson, kId].map strV)) := Lib.hid (HS.out.ko.ext (below_a1 _ _))
  have HMS : Hid (w.heap.size + 2 ≤ (Wj.alloc (.cells #[strV kMethod] 9)).heap.size) := Lib.hid (by have := HS.out.sz; simp; omega)
  have HA : Hid (∀ a' k' W', Own W' (w.heap.size + 2) 9 1 a' (2 + 1) k' ([kJson, kId].map strV ++ [strV kMethod]) → (Wj.alloc (.cells #[strV kMethod] 9)).grownBy W' (rowOf aWi cWi) → (rowOf a' k' = rowOf aWi cWi ∨ rowOf a' k' = some (Wj.alloc (.cells #[strV kMethod] 9)).heap.size) → ToS w (fun k => P k ∧ k ≠ w.heap.size + 1) c a' k' ([kJson, kId] ++ [kMethod]) aWj cWj [strD v20, c.id] W') := Lib.hid fun a' k' W' h1 h2 h3 => (HS.out.ext (below_a1 _ _)).appK h1 h2 h3
  go_upto_region 7 with (at_builtin; refine wpList_append_Own rfl _ _ 24 rfl (w.heap.size + 2) 9 _ 1 16 Tryz.underlying24 Tryz.infoStr rfl (by decide) aWi 2 cWi _ rfl HO.out (some ⟨Wj.heap.size, 0, none⟩) 1 1 [strV kMethod] rfl (row_blk (Blk.new rfl) rfl) (by intro u hu; simp at hu; subst hu; rfl) (by simp [maxLen]) (by simp) HMS.out ?_; intro aWm cWm Wm ho5 hg5 hb5; have HSn := Lib.hid (HA.out _ _ _ ho5 hg5 hb5); clear ho5 hg5 hb5)
  clear HO HMS HA HS
  have HS := HSn
  clear HSn
  simp only [List.cons_append, List.nil_append] at HS
  have c0 : Wm.cell? ⟨w.heap.size, 0, none⟩ = some (.int .i64 kd) := by rw [HKD.out]; exact HS.out.cb.cell 0
  obtain ⟨kn, hkn⟩ : ∃ q : Nat, kd = q := ⟨kd.toNat, by have := HK.out; rw [← HKD.out] at this; omega⟩
  have hk10 : kn < 10 := by have := HK.out; rw [← HKD.out] at this; omega
  have HKN := Lib.hid hkn
  rw [hkn] at c0
  clear hkn
  go_wp2_with fail
  refine (methodR_any kn Wm hk10).mono ?_
  rintro e Wn ⟨rfl, hb⟩
  have HSn := Lib.hid (HS.out.ext hb)
  clear HS hb c0
  have HS := HSn
  clear HSn
  obtain ⟨mn, hmn⟩ : ∃ q, q = methodN kn := ⟨_, rfl⟩
  have HMN := Lib.hid hmn
  rw [← hmn]
  clear hmn
  go_wp2_with fail
  refine (strR_any mn Wn).mono ?_
  rintro e Wo ⟨rfl, hb⟩
  have HSn := Lib.hid (HS.out.ext hb)
  clear HS hb hk10
  have HS := HSn
  clear HSn
  have HO : Hid (Own (Wo.alloc (.cells #[.int .i64 3, .bool false, .int .i64 0, .string ⟨mn.toArray⟩, .slice none 0 0, .slice none 0 0] 26)) (w.heap.size + 2) 26 6 aWj 2 cWj ([strD v20, c.id].flatMap VD.cells)) := Lib.hid (HS.out.lo.ext (below_a1 _ _))
  have HMS : Hid (w.heap.size + 2 ≤ (Wo.alloc (.cells #[.int .i64 3, .bool false, .int .i64 0, .string ⟨mn.toArray⟩, .slice none 0 0, .slice none 0 0] 26)).heap.size) := Lib.hid (by have := HS.out.sz; simp; omega)
  have HRW : Hid (Row (Wo.alloc (.cells #[.int .i64 3, .bool false, .int .i64 0, .string ⟨mn.toArray⟩, .slice none 0 0, .slice none 0 0] 26)) 6 (some ⟨Wo.heap.size, 0, none⟩) 1 (strD mn).cells) := Lib.hid (row_blk (T := 26) (by exact Blk.new rfl) (strD mn).len)
  have HPV : Hid (ValAt (Wo.alloc (.cells #[.int .i64 3, .bool false, .int .i64 0, .string ⟨mn.toArray⟩, .slice none 0 0, .slice none 0 0] 26)) (fun k => (P k ∧ k ≠ w.heap.size + 1) ∧ rowOf aWj cWj ≠ some k ∧ rowOf aWm cWm ≠ some k) (strD mn)) := Lib.hid (.leaf)
  have HA : Hid (∀ a' k' W', Own W' (w.heap.size + 2) 26 6 a' (2 + 1) k' ([strD v20, c.id].flatMap VD.cells ++ (strD mn).cells) → (Wo.alloc (.cells #[.int .i64 3, .bool false, .int .i64 0, .string ⟨mn.toArray⟩, .slice none 0 0, .slice none 0 0] 26)).grownBy W' (rowOf aWj cWj) → (rowOf a' k' = rowOf aWj cWj ∨ rowOf a' k' = some (Wo.alloc (.cells #[.int .i64 3, .bool false, .int .i64 0, .string ⟨mn.toArray⟩, .slice none 0 0, .slice none 0 0] 26)).heap.size) → ToS w (fun k => P k ∧ k ≠ w.heap.size + 1) c aWm cWm [kJson, kId, kMethod] a' k' ([strD v20, c.id] ++ [strD mn]) W') := Lib.hid fun a' k' W' h1 h2 h3 => (HS.out.ext (below_a1 _ _)).appL HPV.out h1 h2 h3
  go_upto_region 8 with (at_builtin; refine wpList_append_Own rfl _ _ 23 rfl (w.heap.size + 2) 26 _ 6 88 Tryz.underlying23 Tryz.infoDoc rfl (by decide) aWj 2 cWj _ rfl HO.out (some ⟨Wo.heap.size, 0, none⟩) 1 1 (strD mn).cells rfl HRW.out (by intro u hu; simp [strD, VD.cells, strV] at hu; rcases hu with rfl | rfl | rfl | rfl | rfl | rfl <;> rfl) (by simp [maxLen]) (by simp) HMS.out ?_; intro aWp cWp Wp ho5 hg5 hb5; have HSn := Lib.hid (HA.out _ _ _ ho5 hg5 hb5); clear ho5 hg5 hb5)
  clear HO HMS HA HS HRW HPV
  have HS := HSn
  clear HSn
  simp only [List.cons_append, List.nil_append] at HS
  have c0 : Wp.cell? ⟨w.heap.size, 0, none⟩ = some (.int .i64 kn) := by rw [← HKN.out, HKD.out]; exact HS.out.cb.cell 0
  by_cases h3 : kn ≤ 3
  ·
   have H3 := Lib.hid h3
   go_upto_region 11 with (fail)
   clear c0 h3
   go_wp2_with fail
   refine (recR_any aWm aWp 3 cWm 3 cWp Wp).mono ?_
   rintro e Wz ⟨rfl, hb⟩
   have HSz := Lib.hid (HS.out.ext hb)
   clear HS hb
   have f0 := HSz.out.rb.free 0
   have f1 := HSz.out.rb.free 1
   have f2 := HSz.out.rb.free 2
   have f3 := HSz.out.rb.free 3
   have f4 := HSz.out.rb.free 4
   have f5 := HSz.out.rb.free 5
   obtain ⟨z0, z1, z2, z3, z4, z5⟩ := HSz.out.rb.sixT
   go_wp2
   refine messageR_end (g := w.heap.size + 1) rfl (store6T HSz.out.rb) ?_
   refine ⟨.mk 5 false 0 [] aWp cWp [strD v20, c.id, strD mn] aWm cWm [kJson, kId, kMethod], rfl, ?_, ((HSz.out.rcd (fun g hg => ⟨HP.out g (by omega), by omega⟩)).congr fun g hg _ => put6_other hg.2).mono fun g hg _ => hg.1, put6_below (o := 0) HSz.out.below (by omega)⟩
   have hkk : c.k.kind = kn := by show c.kind.toNat = kn; rw [← HKD.out, HKN.out]; rfl
   have hid : c.k.id.sort = ids := by rw [HIDS.out]; exact vd_sort c.id
   rw [VD.v_eq]
   unfold msgW
   rw [hid, if_neg HZ.out, hkk, if_neg (by have := H3.out; omega)]
   simp only [VD.list, VD.keys, VD.sort, VD.on, VD.n, VD.text, List.map_cons, List.map_nil, List.cons_append, List.nil_append, recW, HMN.out]
   rfl
  ·
   have H3 := Lib.hid h3
   go_upto_region 9 with (fail)
   clear c0 h3
   have HO : Hid (Own (Wp.alloc (.cells #[strV kParams] 9)) (w.heap.size + 2) 9 1 aWm 3 cWm ([kJson, kId, kMethod].map strV)) := Lib.hid (HS.out.ko.ext (below_a1 _ _))
   have HMS : Hid (w.heap.size + 2 ≤ (Wp.alloc (.cells #[strV kParams] 9)).heap.size) := Lib.hid (by have := HS.out.sz; simp; omega)
   have HA : Hid (∀ a' k' W', Own W' (w.heap.size + 2) 9 1 a' (3 + 1) k' ([kJson, kId, kMethod].map strV ++ [strV kParams]) → (Wp.alloc (.cells #[strV kParams] 9)).grownBy W' (rowOf aWm cWm) → (rowOf a' k' = rowOf aWm cWm ∨ rowOf a' k' = some (Wp.alloc (.cells #[strV kParams] 9)).heap.size) → ToS w (fun k => P k ∧ k ≠ w.heap.size + 1) c a' k' ([kJson, kId, kMethod] ++ [kParams]) aWp cWp [strD v20, c.id, strD mn] W') := Lib.hid fun a' k' W' h1 h2 h3 => (HS.out.ext (below_a1 _ _)).appK h1 h2 h3
   go_upto_region 10 with (at_builtin; refine wpList_append_Own rfl _ _ 24 rfl (w.heap.size + 2) 9 _ 1 16 Tryz.underlying24 Tryz.infoStr rfl (by decide) aWm 3 cWm _ rfl HO.out (some ⟨Wp.heap.size, 0, none⟩) 1 1 [strV kParams] rfl (row_blk (Blk.new rfl) rfl) (by intro u hu; simp at hu; subst hu; rfl) (by simp [maxLen]) (by simp) HMS.out ?_; intro aWq cWq Wq ho5 hg5 hb5; have HSn := Lib.hid (HA.out _ _ _ ho5 hg5 hb5); clear ho5 hg5 hb5)
   clear HO HMS HA HS
   have HS := HSn
   clear HSn
   simp only [List.cons_append, List.nil_append] at HS
   have hto := toldR_any (fun k => (P k ∧ k ≠ w.heap.size + 1) ∧ rowOf aWp cWp ≠ some k ∧ rowOf aWq cWq ≠ some k) c Wq (fun g hg => ⟨⟨HP.out g (Nat.le_trans HS.out.below.size hg), by have := HS.out.sz; omega⟩, HS.out.fresh hg⟩) (by have := HKN.out; have := H3.out; rw [← HKD.out]; omega) HK.out.2 ((HOV.out.mono fun g hg _ => ⟨⟨hg.1, by have := hg.2; omega⟩, HS.out.old (by have := hg.2; omega)⟩).ext HS.out.below) (HCR.out.ext HS.out.below) HCL.out
   have HTO := Lib.hid hto
   clear hto
   go_wp2_with ((with_reducible show wpList _ _ _ (⟨some 37, _, _, _, _, _⟩ :: _) _ _); refine load_doc rfl _ rfl w.heap.size rfl c HS.out.cb ?_)
   refine HTO.out.mono ?_
   clear HTO
   rintro e Wr ⟨tv, rfl, htv, hta, hb⟩
   have HSn := Lib.hid (HS.out.ext hb)
   have HTV := Lib.hid htv
   have HTA := Lib.hid hta
   clear HS hb htv hta
   have HS := HSn
   clear HSn
   have HO : Hid (Own (Wr.alloc (.cells #[.int .i64 tv.sort, .bool tv.on, .int .i64 tv.n, .string ⟨tv.text.toArray⟩, .slice tv.a tv.list.length tv.c, .slice tv.ka tv.keys.length tv.kc] 26)) (w.heap.size + 2) 26 6 aWp 3 cWp ([strD v20, c.id, strD mn].flatMap VD.cells)) := Lib.hid (HS.out.lo.ext (below_a1 _ _))
   have HMS : Hid (w.heap.size + 2 ≤ (Wr.alloc (.cells #[.int .i64 tv.sort, .bool tv.on, .int .i64 tv.n, .string ⟨tv.text.toArray⟩, .slice tv.a tv.list.length tv.c, .slice tv.ka tv.keys.length tv.kc] 26)).heap.size) := Lib.hid (by have := HS.out.sz; simp; omega)
   have HRW : Hid (Row (Wr.alloc (.cells #[.int .i64 tv.sort, .bool tv.on, .int .i64 tv.n, .string ⟨tv.text.toArray⟩, .slice tv.a tv.list.length tv.c, .slice tv.ka tv.keys.length tv.kc] 26)) 6 (some ⟨Wr.heap.size, 0, none⟩) 1 (tv).cells) := Lib.hid (row_blk (T := 26) (by rw [val_arr]; exact Blk.new rfl) (tv).len)
   have HPV : Hid (ValAt (Wr.alloc (.cells #[.int .i64 tv.sort, .bool tv.on, .int .i64 tv.n, .string ⟨tv.text.toArray⟩, .slice tv.a tv.list.length tv.c, .slice tv.ka tv.keys.length tv.kc] 26)) (fun k => (P k ∧ k ≠ w.heap.size + 1) ∧ rowOf aWp cWp ≠ some k ∧ rowOf aWq cWq ≠ some k) (tv)) := Lib.hid (HTA.out.ext (below_a1 _ _))
   have HA : Hid (∀ a' k' W', Own W' (w.heap.size + 2) 26 6 a' (3 + 1) k' ([strD v20, c.id, strD mn].flatMap VD.cells ++ (tv).cells) → (Wr.alloc (.cells #[.int .i64 tv.sort, .bool tv.on, .int .i64 tv.n, .string ⟨tv.text.toArray⟩, .slice tv.a tv.list.length tv.c, .slice tv.ka tv.keys.length tv.kc] 26)).grownBy W' (rowOf aWp cWp) → (rowOf a' k' = rowOf aWp cWp ∨ rowOf a' k' = some (Wr.alloc (.cells #[.int .i64 tv.sort, .bool tv.on, .int .i64 tv.n, .string ⟨tv.text.toArray⟩, .slice tv.a tv.list.length tv.c, .slice tv.ka tv.keys.length tv.kc] 26)).heap.size) → ToS w (fun k => P k ∧ k ≠ w.heap.size + 1) c aWq cWq [kJson, kId, kMethod, kParams] a' k' ([strD v20, c.id, strD mn] ++ [tv]) W') := Lib.hid fun a' k' W' h1 h2 h3 => (HS.out.ext (below_a1 _ _)).appL HPV.out h1 h2 h3
   go_upto_region 11 with (at_builtin; refine wpList_append_Own rfl _ _ 23 rfl (w.heap.size + 2) 26 _ 6 88 Tryz.underlying23 Tryz.infoDoc rfl (by decide) aWp 3 cWp _ rfl HO.out (some ⟨Wr.heap.size, 0, none⟩) 1 1 (tv).cells rfl HRW.out (by rw [val_list]; intro u hu; simp at hu; rcases hu with rfl | rfl | rfl | rfl | rfl | rfl <;> rfl) (by simp [maxLen]) (by simp) HMS.out ?_; intro aWs cWs Ws ho5 hg5 hb5; have HSn := Lib.hid (HA.out _ _ _ ho5 hg5 hb5); clear ho5 hg5 hb5)
   clear HO HMS HA HS HRW HPV
   have HS := HSn
   clear HSn
   simp only [List.cons_append, List.nil_append] at HS
   go_wp2_with fail
   refine (recR_any aWq aWs 4 cWq 4 cWs Ws).mono ?_
   rintro e Wz ⟨rfl, hb⟩
   have HSz := Lib.hid (HS.out.ext hb)
   clear HS hb
   have f0 := HSz.out.rb.free 0
   have f1 := HSz.out.rb.free 1
   have f2 := HSz.out.rb.free 2
   have f3 := HSz.out.rb.free 3
   have f4 := HSz.out.rb.free 4
   have f5 := HSz.out.rb.free 5
   obtain ⟨z0, z1, z2, z3, z4, z5⟩ := HSz.out.rb.sixT
   go_wp2
   refine messageR_end (g := w.heap.size + 1) rfl (store6T HSz.out.rb) ?_
   refine ⟨.mk 5 false 0 [] aWs cWs [strD v20, c.id, strD mn, tv] aWq cWq [kJson, kId, kMethod, kParams], rfl, ?_, ((HSz.out.rcd (fun g hg => ⟨HP.out g (by omega), by omega⟩)).congr fun g hg _ => put6_other hg.2).mono fun g hg _ => hg.1, put6_below (o := 0) HSz.out.below (by omega)⟩
   have hkk : c.k.kind = kn := by show c.kind.toNat = kn; rw [← HKD.out, HKN.out]; rfl
   have hid : c.k.id.sort = ids := by rw [HIDS.out]; exact vd_sort c.id
   rw [VD.v_eq]
   unfold msgW
   rw [hid, if_neg HZ.out, hkk, if_pos (by have := H3.out; omega)]
   simp only [VD.list, VD.keys, VD.sort, VD.on, VD.n, VD.text, List.map_cons, List.map_nil, List.cons_append, List.nil_append, recW, HTV.out, HMN.out]
   rfl
end Go.Proofs.YthnbeebilomchaaGreatDoor

namespace Go.Proofs.YthnbeebilomchaaGreatDoor
open Go Go.RowKit

theorem readC_sizes (v : V) : sizeV (readC v).2.id ≤ sizeV v ∧ sizeV (readC v).2.other ≤ sizeV v ∧ (readC v).2.changes.length ≤ sizeV v := by
  have hz := null_size v
  have h0 : ([] : List E).length ≤ sizeV v := Nat.zero_le _
  unfold readC
  split
  · split
    · exact ⟨hz, hz, h0⟩
    · split
      · exact ⟨getD_size v [kId], hz, h0⟩
      · split
        · exact ⟨getD_size v [kId], hz, h0⟩
        · split
          · exact ⟨getD_size v [kId], hz, h0⟩
          · rename_i c' ht
            obtain ⟨h1, h2, h3⟩ := tell_size ht
            have hp := getD_size v [kParams]
            exact ⟨by rw [h1]; exact getD_size v [kId], Nat.le_trans h2 hp, Nat.le_trans h3 hp⟩
  · exact ⟨hz, hz, h0⟩
theorem writeR04_end {W : World} {tm : Array Value} {R : Ending → World → Prop} {g : Nat} {u0 u1 u2 u3 u4 u5 : Value} (h2 : tm.getD 2 undef = .pointer (some ⟨g, 0, none⟩)) {q : Value} (h3 : tm.getD 3 undef = q) (hB : Blk W g #[u0, u1, u2, u3, u4, u5] 26)
    (hR : R (.returned (.tuple #[.agg #[u0, u1, u2, u3, u4, u5], q])) W) : bodyPost Tryz.prog Tryz.f10 R .ret { tmps := tm, defers := [] } W := by
  have d0 := hB.cell 0
  have d1 := hB.cell 1
  have d2 := hB.cell 2
  have d3 := hB.cell 3
  have d4 := hB.cell 4
  have d5 := hB.cell 5
  simp only [List.getElem?_toArray, List.getElem?_cons_zero, List.getElem?_cons_succ] at d0 d1 d2 d3 d4 d5
  rw [Array.getD_eq_getD_getElem?] at h2 h3
  refine bodyPost_ret (v := .tuple #[.agg #[u0, u1, u2, u3, u4, u5], q]) ?_ rfl hR
  simp [results, Tryz.results10, go_sem, h2, h3, d0, d1, d2, d3, d4, d5]
structure WrR (w : World) (c : CD) (W : World) : Prop where
  below : Below w.heap.size w W
  cblk : Blk W w.heap.size (cdC c) 31
  rblk : Blk W (w.heap.size + 1) #[.int .i64 0, .bool false, .int .i64 0, .string { data := #[] }, .slice none 0 0, .slice none 0 0] 26
  cat : CallAt W c
theorem WrR.ext {w : World} {c : CD} {W W' : World} (h : WrR w c W) (hb : Below W.heap.size W W') : WrR w c W' := ⟨h.below.trans (hb.mono h.below.size), h.cblk.ext hb, h.rblk.ext hb, h.cat.ext hb⟩
theorem WrR.none {w : World} {c : CD} {W : World} (h : WrR w c W) (hn : ¬ wrOk c) : WriE w c (.returned (.tuple #[.agg #[.int .i64 0, .bool false, .int .i64 0, .string { data := #[] }, .slice none 0 0, .slice none 0 0], .int .i64 42])) (put6 W (w.heap.size + 1) 0 (.int .i64 0) (.bool false) (.int .i64 0) (.string { data := #[] }) (.slice none 0 0) (.slice none 0 0)) :=
  ⟨zeroD, 42, rfl, fun q => absurd q hn, fun _ => ⟨rfl, rfl⟩, .leaf, put6_below (o := 0) h.below (by omega)⟩
set_option maxHeartbeats 8000000 in
set_option maxRecDepth 20000 in
theorem writeC_any (c : CD) (w : World) (hc : CallAt w c) (hs : sizeV (msgW c.k) ≤ 1048576) (hn : c.changes.length ≤ 1048576) : Calls Tryz.prog 10 #[.agg (cdC c)] w (WriE w c) := by
 obtain ⟨W1, hW1⟩ : ∃ q, q = (w.alloc (.cells (cdC c) 31)).alloc (.cells #[.int .i64 0, .bool false, .int .i64 0, .string { data := #[] }, .slice none 0 0, .slice none 0 0] 26) := ⟨_, rfl⟩
 have hb : Below w.heap.size w W1 := by rw [hW1]; exact (below_a1 w _).alloc (by simp) _
 have HL : Hid (WrR w c W1) := Lib.hid ⟨hb, by rw [hW1]; exact (Blk.new rfl).alloc _, by rw [hW1]; exact Blk.new (by simp), hc.ext hb⟩
 have HS := Lib.hid hs
 have HN := Lib.hid hn
 obtain ⟨kd, hkd⟩ : ∃ q, q = c.kind := ⟨_, rfl⟩
 have HKD := Lib.hid hkd
 have c0 : W1.cell? ⟨w.heap.size, 0, none⟩ = some (.int .i64 kd) := by rw [hkd]; exact HL.out.cblk.cell 0
 have HCI : Hid (ValAt W1 (fun g => g ≠ w.heap.size + 1) c.id ∧ ValAt W1 (fun g => g ≠ w.heap.size + 1) c.other) := Lib.hid ⟨(hc.id.mono fun g _ h => by omega).ext hb, (hc.other.mono fun g _ h => by omega).ext hb⟩
 clear hb hc hs hn hkd
 go_enter Tryz.func10, Tryz.ntmps10
 go_upto_region 1 with (fail)
 rw [← hW1]
 clear hW1
 by_cases h1 : kd < 1
 case pos =>
  have HNO : Hid (¬ wrOk c) := Lib.hid fun q => by have := q.1; rw [← HKD.out] at this; omega
  have f0 := HL.out.rblk.free 0
  have f1 := HL.out.rblk.free 1
  have f2 := HL.out.rblk.free 2
  have f3 := HL.out.rblk.free 3
  have f4 := HL.out.rblk.free 4
  have f5 := HL.out.rblk.free 5
  obtain ⟨z0, z1, z2, z3, z4, z5⟩ := HL.out.rblk.sixT
  go_wp2
  refine writeR04_end (g := w.heap.size + 1) rfl rfl (store6T HL.out.rblk) ?_
  exact HL.out.none HNO.out
 by_cases h9 : 9 < kd
 case pos =>
  have HNO : Hid (¬ wrOk c) := Lib.hid fun q => by have := q.2.1; rw [← HKD.out] at this; omega
  have f0 := HL.out.rblk.free 0
  have f1 := HL.out.rblk.free 1
  have f2 := HL.out.rblk.free 2
  have f3 := HL.out.rblk.free 3
  have f4 := HL.out.rblk.free 4
  have f5 := HL.out.rblk.free 5
  obtain ⟨z0, z1, z2, z3, z4, z5⟩ := HL.out.rblk.sixT
  go_wp2
  refine writeR04_end (g := w.heap.size + 1) rfl rfl (store6T HL.out.rblk) ?_
  exact HL.out.none HNO.out
 have HK : Hid (1 ≤ c.kind ∧ c.kind ≤ 9) := Lib.hid (by rw [← HKD.out]; omega)
 go_upto_region 3 with (fail)
 clear c0 h1 h9
 have h1 := messageR_any (fun g => g ≠ w.heap.size + 1) c W1 (fun g hg => by have := HL.out.rblk.lt; omega) HK.out.1 HK.out.2 HCI.out.1 HCI.out.2 HL.out.cat.row HN.out
 have H1 := Lib.hid h1
 clear h1
 go_wp2_with ((with_reducible show wpList _ _ _ (⟨some 17, _, _, _, _, _⟩ :: _) _ _); refine load_doc rfl _ rfl w.heap.size rfl c HL.out.cblk ?_)
 refine H1.out.mono ?_
 clear H1
 rintro e W2 ⟨d, rfl, hdv, hda, hb⟩
 have HDV := Lib.hid hdv
 have HLn : Hid (WrR w c W2 ∧ ValAt W2 (fun g => g ≠ w.heap.size + 1) d) := Lib.hid (⟨HL.out.ext hb, hda⟩)
 clear HL hb
 have HL := HLn
 clear HLn
 clear hdv hda
 obtain ⟨gd, hg⟩ : ∃ q, q = W2.heap.size := ⟨_, rfl⟩
 obtain ⟨W3, hQ⟩ : ∃ q, q = W2.alloc (.cells #[.int .i64 d.sort, .bool d.on, .int .i64 d.n, .string ⟨d.text.toArray⟩, .slice d.a d.list.length d.c, .slice d.ka d.keys.length d.kc] 26) := ⟨_, rfl⟩
 have hb : Below W2.heap.size W2 W3 := by rw [hQ]; exact below_a1 _ _
 have HLn : Hid (WrR w c W3 ∧ ValAt W3 (fun g => g ≠ w.heap.size + 1) d ∧ Blk W3 gd #[.int .i64 d.sort, .bool d.on, .int .i64 d.n, .string ⟨d.text.toArray⟩, .slice d.a d.list.length d.c, .slice d.ka d.keys.length d.kc] 26) := Lib.hid (⟨HL.out.1.ext hb, HL.out.2.ext hb, by rw [hQ, hg]; exact Blk.new rfl⟩)
 clear HL hb
 have HL := HLn
 clear HLn
 go_upto_region 4 with (fail)
 rw [← hQ, ← hg]
 clear hQ hg
 obtain ⟨d0, d1, d2, d3, d4, d5⟩ := HL.out.2.2.sixT
 have h1 := readR_any d W3 (HL.out.2.1.mono fun _ _ _ => trivial) (by rw [HDV.out]; exact HS.out)
 rw [HDV.out] at h1
 unfold MsgE at h1
 obtain ⟨n5, hn5⟩ : ∃ n, n = (readC (msgW c.k)).1 := ⟨_, rfl⟩
 obtain ⟨y5, hy5⟩ : ∃ n, n = (readC (msgW c.k)).2 := ⟨_, rfl⟩
 rw [← hn5, ← hy5] at h1
 have HRD : Hid (readC (msgW c.k) = (n5, y5)) := Lib.hid (by rw [hn5, hy5])
 have HSZ : Hid (sizeV y5.id ≤ 1048576 ∧ sizeV y5.other ≤ 1048576 ∧ y5.changes.length ≤ 1048576) := Lib.hid (by
  obtain ⟨a1, a2, a3⟩ := readC_sizes (msgW c.k)
  rw [← hy5] at a1 a2 a3
  exact ⟨Nat.le_trans a1 HS.out, Nat.le_trans a2 HS.out, Nat.le_trans a3 HS.out⟩)
 have H1 := Lib.hid h1
 clear h1 hn5 hy5
 go_wp2_with fail
 refine H1.out.mono ?_
 clear H1 d0 d1 d2 d3 d4 d5
 rintro e W4 ⟨c5, rfl, hc5, hp5, hk5, hb⟩
 have HP5 := Lib.hid hp5
 have HK5 := Lib.hid hk5
 have HLn : Hid (WrR w c W4 ∧ ValAt W4 (fun g => g ≠ w.heap.size + 1) d ∧ Blk W4 gd #[.int .i64 d.sort, .bool d.on, .int .i64 d.n, .string ⟨d.text.toArray⟩, .slice d.a d.list.length d.c, .slice d.ka d.keys.length d.kc] 26 ∧ CallAt W4 c5) := Lib.hid (⟨HL.out.1.ext hb, HL.out.2.1.ext hb, HL.out.2.2.ext hb, hc5⟩)
 clear HL hb
 have HL := HLn
 clear HLn
 clear hc5 hp5 hk5
 obtain ⟨g5, hg⟩ : ∃ q, q = W4.heap.size := ⟨_, rfl⟩
 obtain ⟨W5, hQ⟩ : ∃ q, q = (W4.alloc (.cells #[.int .i64 0, .int .i64 0, .bool false, .int .i64 0, .string { data := #[] }, .slice none 0 0, .slice none 0 0, .string { data := #[] }, .int .i64 0, .string { data := #[] }, .slice none 0 0, .int .i64 0, .int .i64 0, .int .i64 0, .bool false, .int .i64 0, .string { data := #[] }, .slice none 0 0, .slice none 0 0] 31)).setRow W4.heap.size (cdC c5) := ⟨_, rfl⟩
 have hb : Below W4.heap.size W4 W5 := by rw [hQ]; exact below_row (below_a1 _ _) (Nat.le_refl _) _
 have HLn : Hid (WrR w c W5 ∧ ValAt W5 (fun g => g ≠ w.heap.size + 1) d ∧ Blk W5 gd #[.int .i64 d.sort, .bool d.on, .int .i64 d.n, .string ⟨d.text.toArray⟩, .slice d.a d.list.length d.c, .slice d.ka d.keys.length d.kc] 26 ∧ CallAt W5 c5 ∧ Blk W5 g5 (cdC c5) 31) := Lib.hid (⟨HL.out.1.ext hb, HL.out.2.1.ext hb, HL.out.2.2.1.ext hb, HL.out.2.2.2.ext hb, by rw [hQ, hg]; exact setRow_blk (cur := #[.int .i64 0, .int .i64 0, .bool false, .int .i64 0, .string { data := #[] }, .slice none 0 0, .slice none 0 0, .string { data := #[] }, .int .i64 0, .string { data := #[] }, .slice none 0 0, .int .i64 0, .int .i64 0, .int .i64 0, .bool false, .int .i64 0, .string { data := #[] }, .slice none 0 0, .slice none 0 0]) (Blk.new rfl)⟩)
 clear HL hb
 have HL := HLn
 clear HLn
 go_upto_region 5 with ((with_reducible show wpList _ _ _ (⟨none, Op.store 31 (Operand.tmp 5) _, _, _, _, _⟩ :: _) _ _); refine store_doc rfl _ _ rfl W4.heap.size c5 zeroCD rfl rfl (Blk.new rfl) ?_; rw [← hQ, ← hg]; clear hQ hg)
 have hsz : sizeV c5.id.v ≤ 1048576 ∧ sizeV c5.other.v ≤ 1048576 ∧ c5.changes.length ≤ 1048576 := by
  have := HSZ.out; rw [← HK5.out] at this; exact this
 have h1 := sameC_any c5 c W5 HL.out.2.2.2.1 HL.out.1.cat hsz.1 hsz.2.1 hsz.2.2
 have H1 := Lib.hid h1
 clear h1 hsz
 go_wp2_with (first | ((with_reducible show wpList _ _ _ (⟨some 24, _, _, _, _, _⟩ :: _) _ _); refine load_doc rfl _ rfl g5 rfl c5 HL.out.2.2.2.2 ?_) | ((with_reducible show wpList _ _ _ (⟨some 25, _, _, _, _, _⟩ :: _) _ _); refine load_doc rfl _ rfl w.heap.size rfl c HL.out.1.cblk ?_))
 refine H1.out.mono ?_
 clear H1
 rintro e W6 ⟨_, rfl, hb, q, rfl, hq⟩
 have HQ : Hid (q = true ↔ y5 = c.k) := Lib.hid (by rw [hq, same_k HP5.out (by have := HK.out.1; omega), HK5.out])
 have HLn : Hid (WrR w c W6 ∧ ValAt W6 (fun g => g ≠ w.heap.size + 1) d ∧ Blk W6 gd #[.int .i64 d.sort, .bool d.on, .int .i64 d.n, .string ⟨d.text.toArray⟩, .slice d.a d.list.length d.c, .slice d.ka d.keys.length d.kc] 26 ∧ CallAt W6 c5 ∧ Blk W6 g5 (cdC c5) 31) := Lib.hid (⟨HL.out.1.ext hb, HL.out.2.1.ext hb, HL.out.2.2.1.ext hb, HL.out.2.2.2.1.ext hb, HL.out.2.2.2.2.ext hb⟩)
 clear HL hb
 have HL := HLn
 clear HLn
 clear hq
 by_cases hn0 : n5 = 0
 case neg =>
  have HNO : Hid (¬ wrOk c) := Lib.hid fun hw => hn0 (by have := hw.2.2; rw [HRD.out] at this; exact congrArg Prod.fst this)
  have e5 : (n5 != 0) = true := by simpa using hn0
  clear hn0
  have f0 := HL.out.1.rblk.free 0
  have f1 := HL.out.1.rblk.free 1
  have f2 := HL.out.1.rblk.free 2
  have f3 := HL.out.1.rblk.free 3
  have f4 := HL.out.1.rblk.free 4
  have f5 := HL.out.1.rblk.free 5
  obtain ⟨z0, z1, z2, z3, z4, z5⟩ := HL.out.1.rblk.sixT
  go_wp2
  refine writeR04_end (g := w.heap.size + 1) rfl rfl (store6T HL.out.1.rblk) ?_
  exact HL.out.1.none HNO.out
 subst hn0
 cases q with
 | false =>
  have HNO : Hid (¬ wrOk c) := Lib.hid fun hw => by
   have := hw.2.2
   rw [HRD.out] at this
   have h2 := HQ.out.2 (congrArg Prod.snd this)
   cases h2
  have f0 := HL.out.1.rblk.free 0
  have f1 := HL.out.1.rblk.free 1
  have f2 := HL.out.1.rblk.free 2
  have f3 := HL.out.1.rblk.free 3
  have f4 := HL.out.1.rblk.free 4
  have f5 := HL.out.1.rblk.free 5
  obtain ⟨z0, z1, z2, z3, z4, z5⟩ := HL.out.1.rblk.sixT
  go_wp2
  refine writeR04_end (g := w.heap.size + 1) rfl rfl (store6T HL.out.1.rblk) ?_
  exact HL.out.1.none HNO.out
 | true =>
  have HOK : Hid (wrOk c) := Lib.hid ⟨HK.out.1, HK.out.2, by rw [HRD.out, HQ.out.1 rfl]⟩
  have f0 := HL.out.1.rblk.free 0
  have f1 := HL.out.1.rblk.free 1
  have f2 := HL.out.1.rblk.free 2
  have f3 := HL.out.1.rblk.free 3
  have f4 := HL.out.1.rblk.free 4
  have f5 := HL.out.1.rblk.free 5
  obtain ⟨z0, z1, z2, z3, z4, z5⟩ := HL.out.1.rblk.sixT
  obtain ⟨d0, d1, d2, d3, d4, d5⟩ := HL.out.2.2.1.sixT
  go_wp2
  refine writeR04_end (g := w.heap.size + 1) rfl rfl (store6T HL.out.1.rblk) ?_
  exact ⟨d, 0, rfl, fun _ => ⟨rfl, HDV.out⟩, fun h => absurd HOK.out h, (HL.out.2.1.congr fun g hg _ => put6_other hg).mono fun _ _ _ => trivial, put6_below (o := 0) HL.out.1.below (by omega)⟩
end Go.Proofs.YthnbeebilomchaaGreatDoor

namespace Go.Proofs.YthnbeebilomchaaGreatDoor
open Go Go.RowKit

structure RwB (w W : World) (c : CD) : Prop where
  one : Blk W w.heap.size (cdC c) 31
  glob : Glob W
  cat : CallAt W c
  below : Below w.heap.size w W
theorem RwB.ext {w W W' : World} {c : CD} (h : RwB w W c) (hb : Below W.heap.size W W') : RwB w W' c := ⟨h.one.ext hb, h.glob.ext hb, h.cat.ext hb, h.below.trans (hb.mono h.below.size)⟩
theorem wri_same {c c' : CD} (hc : CopC c c') (hl : c'.changes = c.changes) {d d' : VD} {n n' : Int} (h1 : wrOk c' → n = 0 ∧ d.v = msgW c'.k) (h2 : ¬ wrOk c' → n = 42 ∧ d.v = .null) (h3 : wrOk c → n' = 0 ∧ d'.v = msgW c.k) (h4 : ¬ wrOk c → n' = 42 ∧ d'.v = .null) : n = n' ∧ d.v = d'.v ∧ sizeV d.v ≤ sizeV (msgW c.k) := by
  have hk := copC_k hc hl
  have hi : wrOk c' ↔ wrOk c := by unfold wrOk; rw [hk, hc.1]
  by_cases h : wrOk c
  · obtain ⟨a1, a2⟩ := h1 (hi.2 h)
    obtain ⟨a3, a4⟩ := h3 h
    exact ⟨by rw [a1, a3], by rw [a2, a4, hk], by rw [a2, hk]; exact Nat.le_refl _⟩
  · obtain ⟨a1, a2⟩ := h2 (fun q => h (hi.1 q))
    obtain ⟨a3, a4⟩ := h4 h
    exact ⟨by rw [a1, a3], by rw [a2, a4], by rw [a2]; exact null_size _⟩
set_option maxHeartbeats 8000000 in
set_option maxRecDepth 20000 in
theorem writesC_any (c : CD) (w : World) (hG : Glob w) (hc : CallAt w c) (hcs : bulkC c ≤ 1048576) : Calls Tryz.prog 3 #[c.val] w (BoE w true) := by
 obtain ⟨W1, hW1⟩ : ∃ q, q = w.alloc (.cells (cdC c) 31) := ⟨_, rfl⟩
 have hb : Below w.heap.size w W1 := by rw [hW1]; exact below_a1 _ _
 have HL : Hid (RwB w W1 c) := Lib.hid ⟨by rw [hW1]; exact Blk.new rfl, hG.ext hb, hc.ext hb, hb⟩
 have HBU := Lib.hid hcs
 rw [cdC_val]
 clear hb hG hc hcs
 go_enter Tryz.func3, Tryz.ntmps3
 go_upto_region 1 with (fail)
 rw [← hW1]
 clear hW1
 go_wp2_with ((with_reducible show wpList _ _ _ (⟨some 9, _, _, _, _, _⟩ :: _) _ _); refine load_doc rfl _ rfl w.heap.size rfl c HL.out.one ?_)
 refine (small_any c W1 HL.out.cat HBU.out).mono ?_
 rintro e W2 ⟨b, rfl, hsm, hb⟩
 have HSM := Lib.hid hsm
 clear hsm
 have HLn : Hid (RwB w W2 c) := Lib.hid (HL.out.ext hb)
 clear HL hb
 have HL := HLn
 clear HLn
 cases b with
 | false =>
  have HAL := Lib.hid (live_any W2 HL.out.glob)
  have HB := Lib.hid HL.out.below
  go_wp2_with fail
  refine HAL.out.mono ?_
  rintro e Wz ⟨rfl, hb⟩
  have HB1 := Lib.hid (HB.out.trans (hb.mono HB.out.size))
  clear hb HAL HB
  go_wp2
  go_ret
  exact ⟨rfl, HB1.out⟩
 | true =>
 have HSC : Hid (SmallC c) := Lib.hid (HSM.out rfl)
 have HN : Hid (c.changes.length ≤ 1048576) := Lib.hid (by have := HBU.out; unfold bulkC at this; have := chN_len c.changes; omega)
 clear HSM
 go_wp2_with ((with_reducible show wpList _ _ _ (⟨some 15, _, _, _, _, _⟩ :: _) _ _); refine load_doc rfl _ rfl w.heap.size rfl c HL.out.one ?_)
 have h1 := of04_any c W2 HL.out.cat (by have := HBU.out; unfold bulkC at this; omega) (by have := HBU.out; unfold bulkC at this; omega) HN.out
 refine h1.mono ?_
 clear h1
 rintro e W3 ⟨c1, rfl, hcc, hcl, hca, hb⟩
 have HCC := Lib.hid hcc
 have HCL := Lib.hid hcl
 have HLn : Hid (RwB w W3 c ∧ CallAt W3 c1) := Lib.hid (⟨HL.out.ext hb, hca⟩)
 clear HL hb
 have HL := HLn
 clear HLn
 clear hcc hcl hca
 have h1 := write_call c1 W3 HL.out.2 (copC_size HCC.out HCL.out HSC.out).1 (copC_size HCC.out HCL.out HSC.out).2.1 (copC_size HCC.out HCL.out HSC.out).2.2.1 (copC_size HCC.out HCL.out HSC.out).2.2.2
 have H1 := Lib.hid h1
 clear h1
 go_wp2_with fail
 refine H1.out.mono ?_
 clear H1
 rintro e W4 ⟨d, n, rfl, hok, hno, hda, hb⟩
 have HOK := Lib.hid hok
 have HNO := Lib.hid hno
 have HLn : Hid (RwB w W4 c ∧ ValAt W4 (fun _ => True) d) := Lib.hid (⟨HL.out.1.ext hb, hda⟩)
 clear HL hb
 have HL := HLn
 clear HLn
 clear hok hno hda
 obtain ⟨gd, hg⟩ : ∃ q, q = W4.heap.size := ⟨_, rfl⟩
 obtain ⟨W5, hQ⟩ : ∃ q, q = W4.alloc (.cells #[.int .i64 d.sort, .bool d.on, .int .i64 d.n, .string ⟨d.text.toArray⟩, .slice d.a d.list.length d.c, .slice d.ka d.keys.length d.kc] 36) := ⟨_, rfl⟩
 have hb : Below W4.heap.size W4 W5 := by rw [hQ]; exact below_a1 _ _
 have HLn : Hid (RwB w W5 c ∧ ValAt W5 (fun _ => True) d ∧ Blk W5 gd #[.int .i64 d.sort, .bool d.on, .int .i64 d.n, .string ⟨d.text.toArray⟩, .slice d.a d.list.length d.c, .slice d.ka d.keys.length d.kc] 36) := Lib.hid (⟨HL.out.1.ext hb, HL.out.2.ext hb, by rw [hQ, hg]; exact Blk.new rfl⟩)
 clear HL hb
 have HL := HLn
 clear HLn
 go_upto_region 5 with (fail)
 rw [← hQ, ← hg]
 clear hQ hg
 go_wp2_with ((with_reducible show wpList _ _ _ (⟨some 21, _, _, _, _, _⟩ :: _) _ _); refine load_doc rfl _ rfl w.heap.size rfl c HL.out.1.one ?_)
 refine (writeC_any c W5 HL.out.1.cat (Nat.le_trans (small_msg HSC.out) (by decide)) HN.out).mono ?_
 rintro e W6 ⟨d2, n2, rfl, hok2, hno2, hda2, hb⟩
 obtain ⟨rfl, hdv, hds⟩ := wri_same HCC.out HCL.out HOK.out HNO.out hok2 hno2
 have HDV := Lib.hid hdv
 have HDS : Hid (sizeV d.v ≤ 1048576) := Lib.hid (Nat.le_trans hds (Nat.le_trans (small_msg HSC.out) (by decide)))
 have HLn : Hid (RwB w W6 c ∧ ValAt W6 (fun _ => True) d ∧ Blk W6 gd #[.int .i64 d.sort, .bool d.on, .int .i64 d.n, .string ⟨d.text.toArray⟩, .slice d.a d.list.length d.c, .slice d.ka d.keys.length d.kc] 36 ∧ ValAt W6 (fun _ => True) d2) := Lib.hid (⟨HL.out.1.ext hb, HL.out.2.1.ext hb, HL.out.2.2.ext hb, hda2⟩)
 clear HL hb
 have HL := HLn
 clear HLn
 clear hok2 hno2 hda2 hdv hds HOK HNO
 obtain ⟨g2, hg⟩ : ∃ q, q = W6.heap.size := ⟨_, rfl⟩
 obtain ⟨W7, hQ⟩ : ∃ q, q = W6.alloc (.cells #[.int .i64 d2.sort, .bool d2.on, .int .i64 d2.n, .string ⟨d2.text.toArray⟩, .slice d2.a d2.list.length d2.c, .slice d2.ka d2.keys.length d2.kc] 26) := ⟨_, rfl⟩
 have hb : Below W6.heap.size W6 W7 := by rw [hQ]; exact below_a1 _ _
 have HLn : Hid (RwB w W7 c ∧ ValAt W7 (fun _ => True) d ∧ Blk W7 gd #[.int .i64 d.sort, .bool d.on, .int .i64 d.n, .string ⟨d.text.toArray⟩, .slice d.a d.list.length d.c, .slice d.ka d.keys.length d.kc] 36 ∧ ValAt W7 (fun _ => True) d2 ∧ Blk W7 g2 #[.int .i64 d2.sort, .bool d2.on, .int .i64 d2.n, .string ⟨d2.text.toArray⟩, .slice d2.a d2.list.length d2.c, .slice d2.ka d2.keys.length d2.kc] 26) := Lib.hid (⟨HL.out.1.ext hb, HL.out.2.1.ext hb, HL.out.2.2.1.ext hb, HL.out.2.2.2.ext hb, by rw [hQ, hg]; exact Blk.new rfl⟩)
 clear HL hb
 have HL := HLn
 clear HLn
 go_upto_region 6 with (fail)
 rw [← hQ, ← hg]
 clear hQ hg
 refine wp_region_held_drew (S := (fun w' => Blk w' gd #[.int .i64 d.sort, .bool d.on, .int .i64 d.n, .string ⟨d.text.toArray⟩, .slice d.a d.list.length d.c, .slice d.ka d.keys.length d.kc] 36 ∧ Blk w' g2 #[.int .i64 d2.sort, .bool d2.on, .int .i64 d2.n, .string ⟨d2.text.toArray⟩, .slice d2.a d2.list.length d2.c, .slice d2.ka d2.keys.length d2.kc] 26)) (by kernel_rfl) ?_ (fun hHeld => ?_)
 ·
  exact ⟨HL.out.2.2.1, HL.out.2.2.2.2⟩
 obtain ⟨W8, hWd⟩ : ∃ q, q = W7.drew := ⟨_, rfl⟩
 rw [← hWd] at hHeld ⊢
 have HLn : Hid (RwB w W8 c ∧ ValAt W8 (fun _ => True) d ∧ Blk W8 gd #[.int .i64 d.sort, .bool d.on, .int .i64 d.n, .string ⟨d.text.toArray⟩, .slice d.a d.list.length d.c, .slice d.ka d.keys.length d.kc] 36 ∧ ValAt W8 (fun _ => True) d2 ∧ Blk W8 g2 #[.int .i64 d2.sort, .bool d2.on, .int .i64 d2.n, .string ⟨d2.text.toArray⟩, .slice d2.a d2.list.length d2.c, .slice d2.ka d2.keys.length d2.kc] 26) := Lib.hid (by rw [hWd]; have hb := (Below.refl W7.heap.size W7).drew; exact ⟨HL.out.1.ext hb, HL.out.2.1.ext hb, HL.out.2.2.1.ext hb, HL.out.2.2.2.1.ext hb, HL.out.2.2.2.2.ext hb⟩)
 clear HL hWd
 have HL := HLn
 clear HLn
 refine wpAnyH_take (i := 0) (oi := ⟨some 25, _, _, _, _, _⟩) (v := ?_) rfl (by kernel_rfl) (by kernel_rfl) (by kernel_rfl) (fun _ _ _ h => h) (Or.inl ⟨by rfl, ?_⟩) (by assumption) ?_; rotate_left; focus (intro w hSw; (try dsimp only at hSw); obtain ⟨a0, a1, a2, a3, a4, a5⟩ := Blk.sixT hSw.1; first | (go_simp; done) | (go_simp; with_reducible rfl))
 try simp only [Act.put, List.setIfInBounds_toArray, List.set_cons_succ, List.set_cons_zero]
 refine wpAnyH_take (i := 2) (oi := ⟨some 27, _, _, _, _, _⟩) (v := ?_) rfl (by kernel_rfl) (by kernel_rfl) (by kernel_rfl) (fun _ _ _ h => h) (Or.inl ⟨by rfl, ?_⟩) (by assumption) ?_; rotate_left; focus (intro w hSw; (try dsimp only at hSw); obtain ⟨a0, a1, a2, a3, a4, a5⟩ := Blk.sixT hSw.2; first | (go_simp; done) | (go_simp; with_reducible rfl))
 try simp only [Act.put, List.setIfInBounds_toArray, List.set_cons_succ, List.set_cons_zero]
 refine wpAnyH_ready (rs := [1]) (by kernel_rfl) (by simp) ?_
 refine AllReadyH.cons (i := 1) (o := ⟨some 26, _, _, _, _, _⟩) rfl (fun K hK => ?_) ?_
 ·
  go_simp
  refine (toA_any HL.out.2.1 HDS.out).mono ?_
  rintro e W9 ⟨q1, rfl, hv1, ha1, hb⟩
  have HV1 := Lib.hid hv1
  have HLn : Hid (RwB w W9 c ∧ ValAt W9 (fun _ => True) d ∧ Blk W9 gd #[.int .i64 d.sort, .bool d.on, .int .i64 d.n, .string ⟨d.text.toArray⟩, .slice d.a d.list.length d.c, .slice d.ka d.keys.length d.kc] 36 ∧ ValAt W9 (fun _ => True) d2 ∧ Blk W9 g2 #[.int .i64 d2.sort, .bool d2.on, .int .i64 d2.n, .string ⟨d2.text.toArray⟩, .slice d2.a d2.list.length d2.c, .slice d2.ka d2.keys.length d2.kc] 26 ∧ ValAt W9 (fun _ => True) q1) := Lib.hid (⟨HL.out.1.ext hb, HL.out.2.1.ext hb, HL.out.2.2.1.ext hb, HL.out.2.2.2.1.ext hb, HL.out.2.2.2.2.ext hb, ha1⟩)
  clear HL hb
  have HL := HLn
  clear HLn
  clear hv1 ha1
  refine hK.out _ _ ?_ (fun hHeld => ?_)
  ·
   exact ⟨HL.out.2.2.1, HL.out.2.2.2.2.1⟩
  try simp only [Act.put, List.setIfInBounds_toArray, List.set_cons_succ, List.set_cons_zero]
  refine wpAnyH_ready (rs := [3]) (by kernel_rfl) (by simp) ?_
  refine AllReadyH.cons (i := 3) (o := ⟨some 28, _, _, _, _, _⟩) rfl (fun K hK => ?_) ?_
  ·
   go_simp
   refine (same_ok HL.out.2.2.2.2.2 HL.out.2.2.2.1 (by rw [HV1.out]; exact HDS.out) (by rw [HV1.out]; exact HDV.out)).mono ?_
   rintro e W10 ⟨rfl, hb⟩
   have HLn : Hid (RwB w W10 c ∧ ValAt W10 (fun _ => True) d ∧ Blk W10 gd #[.int .i64 d.sort, .bool d.on, .int .i64 d.n, .string ⟨d.text.toArray⟩, .slice d.a d.list.length d.c, .slice d.ka d.keys.length d.kc] 36 ∧ ValAt W10 (fun _ => True) d2 ∧ Blk W10 g2 #[.int .i64 d2.sort, .bool d2.on, .int .i64 d2.n, .string ⟨d2.text.toArray⟩, .slice d2.a d2.list.length d2.c, .slice d2.ka d2.keys.length d2.kc] 26 ∧ ValAt W10 (fun _ => True) q1) := Lib.hid (⟨HL.out.1.ext hb, HL.out.2.1.ext hb, HL.out.2.2.1.ext hb, HL.out.2.2.2.1.ext hb, HL.out.2.2.2.2.1.ext hb, HL.out.2.2.2.2.2.ext hb⟩)
   clear HL hb
   have HL := HLn
   clear HLn
   refine hK.out _ _ ?_ (fun hHeld => ?_)
   ·
    exact ⟨HL.out.2.2.1, HL.out.2.2.2.2.1⟩
   try simp only [Act.put, List.setIfInBounds_toArray, List.set_cons_succ, List.set_cons_zero]
   refine wpAnyH_take (i := 4) (oi := ⟨some 8, _, _, _, _, _⟩) (v := ?_) rfl (by kernel_rfl) (by kernel_rfl) (by kernel_rfl) (fun _ _ _ h => h) (Or.inl ⟨by rfl, ?_⟩) (by assumption) ?_; rotate_left; focus (intro w hSw; (try dsimp only at hSw); first | (go_simp; done) | (go_simp; with_reducible rfl))
   try simp only [Act.put, List.setIfInBounds_toArray, List.set_cons_succ, List.set_cons_zero]
   refine wpAnyH_done (by kernel_rfl) ?_ _
   clear hHeld
   have HAL := Lib.hid (live_any W10 HL.out.1.glob)
   have HB := Lib.hid HL.out.1.below
   clear HL
   go_wp2_with fail
   refine HAL.out.mono ?_
   rintro e W11 ⟨rfl, hb⟩
   have HB1 := Lib.hid (HB.out.trans (hb.mono HB.out.size))
   clear hb HAL HB
   go_wp2
   go_ret
   exact ⟨rfl, HB1.out⟩
  exact AllReadyH.nil
 exact AllReadyH.nil
end Go.Proofs.YthnbeebilomchaaGreatDoor

namespace Go.Proofs.YthnbeebilomchaaGreatDoor
open Go Go.RowKit Go.ChangeShapes Go.WideShapes Go.ChangeAt

theorem Tryz.ownL : ownKnob Tryz.prog.godebug = none := by kernel_rfl
def laidAll : List (String × DataW Unit) := [("math/bits.deBruijn32tab", Rows.laid_math_bits_deBruijn32tab), ("math/bits.deBruijn64tab", Rows.laid_math_bits_deBruijn64tab), ("internal/strconv.uint64pow10", Rows.laid_internal_strconv_uint64pow10), ("unicode/utf8.acceptRanges", Rows.laid_unicode_utf8_acceptRanges), ("strconv.ErrRange", Rows.laid_strconv_ErrRange), ("strconv.ErrSyntax", Rows.laid_strconv_ErrSyntax), ("unicode/utf8.first", Rows.laid_unicode_utf8_first)]

theorem Tryz.star : "*" ++ "errors.errorString" = "*errors.errorString" := by decide
theorem Tryz.errRow (u : TypeId) (h : Tryz.prog.typeName? 3 u = some "*errors.errorString") : u = 225 :=
  typeName_ptr_named (nm := "errors.errorString") (by rw [Tryz.star]; kernel_rfl) (by kernel_rfl) (by decide) u (by rw [Tryz.star]; exact h)

theorem glob_of {W : World} (h : laidMetH Tryz.prog laidAll W) : Glob W := by
 rw [MakeChecks.laidMetH_plain _ _ _ (by kernel_rfl)] at h
 have h2 := h.tail.tail
 have h4 := h2.tail.tail
 have h5 := h4.tail
 have htab : Lib.TabIs Tryz.prog W "internal/strconv.uint64pow10" .u64 Lib.pow10Tab :=
  Lib.tabIs_of_head Tryz.gTab (by kernel_rfl) Tryz.underlying202 Tryz.underlying175 (by kernel_rfl) (by kernel_rfl) h2
 obtain ⟨a1, s1, hv1, -⟩ := laid_sentinel h4 Tryz.gRng (by kernel_rfl) Tryz.underlying148 Tryz.errRow Tryz.underlying225 Tryz.underlying227 rfl rfl Tryz.underlying9 (by kernel_rfl) (by kernel_rfl)
 obtain ⟨a2, s2, hv2, -⟩ := laid_sentinel h5 Tryz.gSyn (by kernel_rfl) Tryz.underlying148 Tryz.errRow Tryz.underlying225 Tryz.underlying227 rfl rfl Tryz.underlying9 (by kernel_rfl) (by kernel_rfl)
 have r1 : Lib.VarReads Tryz.prog W "unicode/utf8.first" Lib.firstData := by
  rw [show Lib.firstData = Rows.laid_unicode_utf8_first by kernel_rfl]
  exact Lib.laidMet.reads h (.tail _ (.tail _ (.tail _ (.tail _ (.tail _ (.tail _ (.head _)))))))
 have r2 : Lib.VarReads Tryz.prog W "unicode/utf8.acceptRanges" Lib.acceptData := by
  rw [show Lib.acceptData = Rows.laid_unicode_utf8_acceptRanges by kernel_rfl]
  exact Lib.laidMet.reads h (.tail _ (.tail _ (.tail _ (.head _))))
 have hutf : Lib.Utf8Tabs (Tryz.laysValid_ren.g 3) (Tryz.laysValid_ren.g 4) W :=
  utf8Tabs_of_readsT (U8Types.of196 Tryz.laysValid) ⟨by kernel_rfl, by kernel_rfl, by kernel_rfl, by kernel_rfl, by kernel_rfl, by kernel_rfl, by kernel_rfl⟩ r1 r2
 refine ⟨⟨_, _, hv2⟩, ⟨_, _, hv1⟩, htab, hutf, ?_⟩
 obtain ⟨g, t, cs, fuel, p, -, -, hv, -⟩ := Lib.laidMet.reads h (n := "math/bits.deBruijn64tab") (d := Rows.laid_math_bits_deBruijn64tab) (.tail _ (.head _))
 unfold World.var? at hv
 rw [show Tryz.prog.globalNamed "math/bits.deBruijn64tab" = some 7 by kernel_rfl, Option.bind_some] at hv
 split at hv
 ·
  rename_i hh
  exact (Array.getElem?_eq_some_iff.1 hh).1
 ·
  cases hv
end Go.Proofs.YthnbeebilomchaaGreatDoor

namespace Go.Proofs.YthnbeebilomchaaGreatDoor
open Go Go.RowKit Go.ChangeAt Go.ChangeShapes Go.WideShapes

theorem Tryz.laidOutV : laidOutB Tryz.prog = true := by kernel_rfl
def zeroRead {H : Type} : DataW H := .agg [.lit (.int .i64 0), .lit (.bool false), .lit (.int .i64 0), .lit (.string []), .nil, .nil]
def zeroCallR : Value := .agg #[.int .i64 0, .int .i64 0, .bool false, .int .i64 0, .string ⟨#[]⟩, .slice none 0 0, .slice none 0 0, .string ⟨#[]⟩, .int .i64 0, .string ⟨#[]⟩, .slice none 0 0, .int .i64 0, .int .i64 0, .int .i64 0, .bool false, .int .i64 0, .string ⟨#[]⟩, .slice none 0 0, .slice none 0 0]
def zeroReadC {H : Type} : DataW H := .agg [.lit (.int .i64 0), zeroRead, .lit (.string []), .lit (.int .i64 0), .lit (.string []), .nil, .agg [.lit (.int .i64 0), .lit (.int .i64 0)], zeroRead]
theorem writesC_row {H : Type} (os : Os) (enc : TypeId × Value → H) : (Rows.OpenSpec.upto Rows.rpcWritesSpec).preRow enc Tryz.prog Tryz.f3 Rows.rpcWritesUptoRow.domain false laidAll ((World.laidAll Tryz.prog os laidAll).forCall (fun _ _ => 0) ⟨#[], #[zeroCallR], []⟩).memory #[zeroCallR] := by
  have hx : DataW.whole enc Tryz.prog ((World.laidAll Tryz.prog os laidAll).forCall (fun _ _ => 0) ⟨#[], #[zeroCallR], []⟩).memory Tryz.f3.params.toList (Rows.OpenSpec.upto Rows.rpcWritesSpec).vars false #[zeroCallR].toList 8 = some ([zeroReadC], [], []) := by kernel_rfl
  exact OpenSpec.preRow_of_cond 8 hx (by kernel_rfl) (fun k hk => by cases hk; rfl) (by kernel_rfl) (by rw [MakeChecks.laidMetH_plain _ _ _ (by kernel_rfl)]; exact laidMet_laidAll _ (by kernel_rfl) (by kernel_rfl))

set_option maxRecDepth 100000 in
set_option maxHeartbeats 2000000 in
theorem writesC_lifted (os : Os) (started : os.Started) (H : Type) (enc : TypeId × Value → H) (F : Stop.Interp) :
  ReturnsInHanded {} Tryz.checked os 3 .any ((Rows.OpenSpec.upto Rows.rpcWritesSpec).preRow enc Tryz.prog Tryz.f3 Rows.rpcWritesUptoRow.domain false laidAll) (((Rows.OpenSpec.upto Rows.rpcWritesSpec).at F).post enc Tryz.prog Tryz.f3 false true false false) := by
 refine returnsInHanded_of_row (C := Tryz.checked) (s := Rows.OpenSpec.upto Rows.rpcWritesSpec) Tryz.ownL started (by kernel_rfl) Tryz.func3
  ⟨World.laidAll Tryz.prog os laidAll, fun _ _ => 0, ⟨#[], #[zeroCallR], []⟩, World.laidAll_os _ _ _, World.shaped_of_ZipB (by kernel_rfl) (by kernel_rfl), rfl, (Input.okWide_of_okWideB (by kernel_rfl)).2, writesC_row os enc, by
   simp only [Assume.holds]
   exact ⟨by simp, by simp, fun _ => Modest.zero, by simp, by simp⟩⟩ ?_
 intro W base args ds gs before hval0 hW _ hk _ hL _ _
 have hW' := hW
 obtain ⟨p, q, hA0, hV, rfl, hfz, hnd⟩ := hW
 have hA : DataW.TrodAll enc Tryz.prog W 0 (fun _ => true) true Tryz.f3.params.toList args.toList ds p := hA0
 have hval : ∀ (j : Nat) t v, Tryz.f3.params[j]? = some t → args[j]? = some v → Value.okWide Tryz.prog W .any base t v := hval0
 rw [Tryz.params3] at hA hval
 obtain ⟨v0, d0, rfl, rfl, h0⟩ := trodAll_one hA
 obtain ⟨rfl, rfl⟩ := trodVars_none hV
 have hlt0 : ∀ x ∈ p, x.block < W.heap.size := fun x hx => hW'.lt x (by simp [hx])
 have hk' : Rows.uptoBulkAll [d0] ≤ 1048576 := of_decide_eq_true (hk _ rfl)
 rw [bulk_cons] at hk'
 obtain ⟨cs0, rfl, -⟩ := okWide_struct Tryz.underlying31 (hval 0 31 v0 rfl rfl)
 obtain ⟨f0, h0'⟩ := h0
 obtain ⟨x, hx0, hp0, hw0⟩ := open_call f0 cs0.toList _ h0'
 have hb0 : bulkC x ≤ 1048576 := by
  have : bulkC x ≤ Rows.uptoBulk d0 := hw0
  omega
 have hcs0 : (Value.agg cs0) = x.val := by rw [cdC_val]; exact congrArg Value.agg (Array.ext' hx0)
 clear hA0 hval0
 rw [hcs0]
 refine (writesC_any x W (glob_of hL) hp0 hb0).mono fun e W' hres => ?_
 obtain ⟨rfl, hb⟩ := hres
 have t0 := Below.trod Tryz.laidOutV (by kernel_rfl) (of_decide_eq_true (by kernel_rfl)) ⟨f0, h0'⟩ hb hlt0
 rw [hcs0] at t0
 rw [hcs0] at hW'
 refine ⟨_, rfl, _, _, _, [], p, [], hW', ?_, ?_, ?_, hb.frame _, fun h => by cases h⟩
 ·
  exact trodAll_mk1 (shut_bool Tryz.underlying4 true)
 ·
  exact trodAll_mk1 t0
 ·
  rfl

theorem writesC_holds : Rows.RpcWritesUptoSaid :=
  OpenClaim.holds_of_cond 3 Tryz.f3 rfl rfl rfl rfl rfl rfl rfl ⟨rfl, rfl, rfl, rfl, rfl⟩ rfl rfl rfl rfl rfl (by kernel_rfl) Tryz.func3 (by kernel_rfl)
    (of_decide_eq_true (by kernel_rfl)) (by unfold Func.isWrapper; first | (rw [if_pos (by decide +kernel)]; kernel_rfl) | (rw [if_neg (by decide +kernel)]; exact ⟨rfl, rfl⟩))
    (fun os started H enc _ F => by rw [OpenClaim.pre_eq_preRow]; exact writesC_lifted os started H enc F)

theorem writesC_card : Rows.RpcWritesUptoCardSaid :=
 Claim7.holds_tied_plain_at .later [] [.data, .data, .data, .data, .sentinel, .sentinel, .pinned] true (true, "53642fa45f886c356ad79fcdf48b1b3fb671cf86e0779d40d62ae12111470f8b") true writesC_holds (fun _ h => by cases h) (by kernel_rfl) (fun _ h => by cases h) rpcWritesUpto_row_tie rfl ⟨rfl, rfl⟩ (by kernel_rfl) rfl
  (fun f fn hf hfn => by
   obtain rfl : f = 3 := Option.some.inj ((show Tryz.prog.funcNamed "bolthole/boltholelaw04.RpcWrites" = some 3 by kernel_rfl).symm.trans hf) |>.symm
   obtain rfl : fn = Tryz.f3 := (Option.some.inj (Tryz.func3.symm.trans hfn)).symm
   exact ⟨by kernel_rfl, fun j t ht => by
    rw [Tryz.params3] at ht
    have hm : t ∈ [31] := by simpa using Array.mem_of_getElem? ht
    have hall : ([31].all fun u => !Tryz.prog.wantsStandIn u) = true := by kernel_rfl
    exact (show Tryz.prog.wantsStandIn t = false by simpa using List.all_eq_true.1 hall t hm)⟩)
  (by kernel_rfl)
end Go.Proofs.YthnbeebilomchaaGreatDoor
