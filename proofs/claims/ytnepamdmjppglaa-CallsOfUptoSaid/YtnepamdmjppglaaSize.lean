/- How large a part is, and the document's list of what is called in it: walked. -/
import Derived.Test.YtnepamdmjppglaaPartV
import Derived.Test.YtnepamdmjppglaaSame
namespace Go.Proofs.Ytnepamdmjppglaa
open Go Go.RowKit

set_option maxHeartbeats 1000000 in
theorem size_any {w : World} {d : PartD} (h : PartAt w d) : weight (pre d) ≤ 1048576 → ∀ W, Below w.heap.size w W →
    Calls Try.prog 7 #[d.val] W (Ret W fun v _ => ∃ m : Nat, v = .int .i64 m ∧ m ≤ weight (pre d) ∧ (m ≤ 1600 → m = weight (pre d))) := by
  induction h with
  | @mk k t lo hi a c ks h hk ih =>
    intro hw W hb0
    have hwt := weight_pre (.mk k t lo hi a c ks)
    simp only [PartD.text, PartD.kind, PartD.kids] at hwt
    have hks := kids_le ks
    have HR := Lib.hid (h.ext hb0)
    have HW : Hid (∀ i, weight (pres (ks.take i)) ≤ weight (pres ks)) := Lib.hid (weight_take_le ks)
    have HI : Hid (∀ x ∈ ks, weight (pre x) ≤ 1048576 → ∀ V, Below W.heap.size W V → Calls Try.prog 7 #[x.val] V (Ret V fun v _ => ∃ m : Nat, v = .int .i64 m ∧ m ≤ weight (pre x) ∧ (m ≤ 1600 → m = weight (pre x)))) := Lib.hid fun x hx hwx V hV => ih x hx hwx V (hb0.trans (hV.mono hb0.size))
    clear ih hk h hb0
    unfold PartD.val PartD.cells strV
    go_enter Try.func7, Try.ntmps7
    go_wp2_with fail
    obtain ⟨w1, hw1⟩ : ∃ w1, w1 = W.alloc (.cells #[.string ⟨k.toArray⟩, .string ⟨t.toArray⟩, .int .i64 lo, .int .i64 hi, .slice a ks.length c] 24) := ⟨_, rfl⟩
    have hb1 : Below W.heap.size W w1 := by rw [hw1]; exact below_a1 _ _
    have hx4 : w1.cell? ⟨W.heap.size, 4, none⟩ = some (.slice a ks.length c) := by rw [hw1]; exact (cell_new (by simp)).trans rfl
    have Hb1 := Lib.hid hb1
    have hW1 : W.heap.size < w1.heap.size := by rw [hw1]; simp
    try rw [← hw1]
    clear hw1 hb1
    go_loopw [3, 4] (fun n i wr => ∃ (q m : Nat), q ≤ ks.length ∧ i = .int .i64 q ∧ n = .int .i64 m ∧ m ≤ 1 + t.length + k.length + weight (pres (ks.take q)) ∧ (m ≤ 1600 → m = 1 + t.length + k.length + weight (pres (ks.take q))) ∧ Hid (Below w1.heap.size w1 wr)) (fun _ i _ => ks.length - (intOf i).toNat)
    case atStart => exact ⟨0, 1 + t.length + k.length, Nat.zero_le _, rfl, by first | rfl | go_num, by simp [weight, pres], fun _ => by simp [weight, pres], Lib.hid (Below.refl _ _)⟩
    case round =>
      obtain ⟨q, m, hq, rfl, rfl, hm, hm2, hb⟩ := hrel
      have hy4 := (hb.out.cell (p := ⟨W.heap.size, 4, none⟩) hW1).trans hx4
      have hwq := HW.out q
      by_cases hlt : q < ks.length
      · by_cases hm3 : m ≤ 1600
        · obtain ⟨x, hx⟩ := get_some hlt
          have hB := Hb1.out.trans (hb.out.mono Hb1.out.size)
          obtain ⟨b, off, rfl, c0, c1, c2, c3, c4⟩ := part_at (HR.out.ext hB) hx
          have hxm := List.mem_of_getElem? hx
          have htk := weight_take hx
          have hwq1 := HW.out (q + 1)
          have hc := HI.out x hxm (by omega) wr hB
          rw [PartD.val_eq] at hc
          have Hc := Lib.hid hc
          have Htk := Lib.hid htk
          rw [htk] at hwq1
          clear hc hx hxm htk hB
          go_wp2_with fail
          refine Hc.out.mono ?_
          clear Hc
          rintro e w2 ⟨_, rfl, hb2, mx, rfl, hmx, hmx2⟩
          have Hb2 := Lib.hid (hb.out.trans (hb2.mono hb.out.size))
          clear hb2
          go_wp2
          go_roundw
          case rel => exact ⟨q + 1, m + mx, by omega, by go_num, by go_num, by rw [Htk.out]; omega, fun h => by rw [Htk.out]; have := hm2 hm3; have := hmx2 (by omega); omega, Hb2⟩
          case measure => simp [intOf]; omega
        · go_wp2
          go_ret
          refine ⟨_, rfl, Hb1.out.trans (hb.out.mono Hb1.out.size), m, rfl, by omega, fun h => by omega⟩
      · obtain rfl : q = ks.length := by omega
        rw [List.take_length] at hm hm2
        go_wp2
        go_ret
        exact ⟨_, rfl, Hb1.out.trans (hb.out.mono Hb1.out.size), m, rfl, by omega, fun h => by have := hm2 h; omega⟩

theorem calledIn_pre (d : PartD) : calledIn (pre d) = (if d.kind = callNm0 then [d.text] else []) ++ calledIn (pres d.kids) := by
  rw [pre_eq]
  by_cases h : d.kind = callNm0
  · simp [calledIn, h]
  · simp [calledIn, h]
theorem calledIn_take {l : List PartD} {i : Nat} {x : PartD} (hx : l[i]? = some x) : calledIn (pres (l.take (i + 1))) = calledIn (pres (l.take i)) ++ calledIn (pre x) := by rw [pres_take hx, calledIn_app]
theorem calledIn_len (l : List PartD) : (calledIn l).length ≤ weight l := by
  have h1 : (calledIn l).length ≤ l.length := by
    unfold calledIn; rw [List.length_map]; exact List.length_filter_le _ _
  have := weight_len l
  omega
theorem rising_len {q l : List Nm} (hr : q.Pairwise fun x y => x < y) (hm : ∀ x, x ∈ q ↔ x ∈ l) : q.length ≤ l.length :=
  List.Nodup.length_le_of_subset (hr.imp fun h e => by subst e; exact absurd h (List.lt_irrefl _)) fun x hx => (hm x).1 hx

/-- a rising list of what is called -/
def OfR (l : List Nm) (v : Value) (w' : World) : Prop := ∃ (q : List Nm) (a : Option Addr) (c : Nat), v = .slice a q.length c ∧ RowC w' a c q ∧ q.Pairwise (fun x y => x < y) ∧ ∀ x, x ∈ q ↔ x ∈ l

set_option maxHeartbeats 2000000 in
theorem ofR_any {w : World} {d : PartD} (h : PartAt w d) : weight (pre d) ≤ 1048576 → ∀ W, Below w.heap.size w W →
    Calls Try.prog 11 #[d.val] W (Ret W (OfR (calledIn (pre d)))) := by
  induction h with
  | @mk k t lo hi a c ks h hk ih =>
    intro hw W hb0
    have hwt := weight_pre (.mk k t lo hi a c ks)
    have hcp : calledIn (pre (.mk k t lo hi a c ks)) = (if k = callNm0 then [t] else []) ++ calledIn (pres ks) := calledIn_pre _
    simp only [PartD.text, PartD.kind, PartD.kids] at hwt
    rw [hcp]
    have hks := kids_le ks
    have HR := Lib.hid (h.ext hb0)
    have HW : Hid (∀ i, weight (pres (ks.take i)) ≤ weight (pres ks)) := Lib.hid (weight_take_le ks)
    have HI : Hid (∀ x ∈ ks, weight (pre x) ≤ 1048576 → ∀ V, Below W.heap.size W V → Calls Try.prog 11 #[x.val] V (Ret V (OfR (calledIn (pre x))))) := Lib.hid fun x hx hwx V hV => ih x hx hwx V (hb0.trans (hV.mono hb0.size))
    clear ih hk h hb0 hcp
    obtain ⟨st, hst⟩ : ∃ st : List Nm, st = if k = callNm0 then [t] else [] := ⟨_, rfl⟩
    rw [← hst]
    have hstl : st.length ≤ 1 := by rw [hst]; split <;> simp
    have hstp : st.Pairwise fun x y => x < y := by rw [hst]; split <;> simp
    have HST := Lib.hid hstp
    clear hstp
    unfold PartD.val PartD.cells strV
    go_enter Try.func11, Try.ntmps11
    by_cases hkc : k = callNm0
    · have fk : (k == [99, 97, 108, 108]) = true := by rw [hkc]; rfl
      rw [if_pos hkc] at hst
      subst hst
      clear hkc
      go_wp2_with fail
      obtain ⟨w1, hw1⟩ : ∃ w1, w1 = (W.alloc (.cells #[.string ⟨k.toArray⟩, .string ⟨t.toArray⟩, .int .i64 lo, .int .i64 hi, .slice a ks.length c] 24)).alloc (.cells #[.string ⟨t.toArray⟩] 9) := ⟨_, rfl⟩
      have hb1 : Below W.heap.size W w1 := by rw [hw1]; exact (below_a1 _ _).alloc (by simp) _
      have hx4 : w1.cell? ⟨W.heap.size, 4, none⟩ = some (.slice a ks.length c) := by rw [hw1]; exact ((Blk.new rfl).alloc _).cell 4
      have hr1 : RowC w1 (some ⟨W.heap.size + 1, 0, none⟩) 1 [t] := by rw [hw1]; exact ⟨Row.new1 (by simp) rfl rfl, by simp⟩
      have Hb1 := Lib.hid hb1
      have Hr1 := Lib.hid hr1
      have hW1 : W.heap.size < w1.heap.size := by rw [hw1]; simp; omega
      try rw [← hw1]
      clear hw1 hb1 hr1
      go_loopw [3, 4] (fun o i wr => ∃ (q : Nat) (out : List Nm) (ao : Option Addr) (co : Nat), q ≤ ks.length ∧ i = .int .i64 q ∧ o = .slice ao out.length co ∧ Hid (RowC wr ao co out) ∧ Hid (out.Pairwise fun x y => x < y) ∧ Hid (∀ x, x ∈ out ↔ x ∈ [t] ∨ x ∈ calledIn (pres (ks.take q))) ∧ out.length ≤ 1 + weight (pres (ks.take q)) ∧ Hid (Below w1.heap.size w1 wr)) (fun _ i _ => ks.length - (intOf i).toNat)
      case atStart => exact ⟨0, [t], some ⟨W.heap.size + 1, 0, none⟩, 1, Nat.zero_le _, rfl, rfl, Hr1, HST, Lib.hid (by simp [calledIn, pres]), by simp, Lib.hid (Below.refl _ _)⟩
      case round =>
        obtain ⟨q, out, ao, co, hq, rfl, rfl, hrow, hris, hmem, hol, hb⟩ := hrel
        have hy4 := (hb.out.cell (p := ⟨W.heap.size, 4, none⟩) hW1).trans hx4
        have hwq := HW.out q
        by_cases hlt : q < ks.length
        · obtain ⟨x, hx⟩ := get_some hlt
          have hB := Hb1.out.trans (hb.out.mono Hb1.out.size)
          obtain ⟨b, off, rfl, c0, c1, c2, c3, c4⟩ := part_at (HR.out.ext hB) hx
          have hxm := List.mem_of_getElem? hx
          have htk := weight_take hx
          have hwq1 := HW.out (q + 1)
          have hct := calledIn_take hx
          have hcx := calledIn_len (pre x)
          have hc := HI.out x hxm (by omega) wr hB
          rw [PartD.val_eq] at hc
          have Hc := Lib.hid hc
          have Htk := Lib.hid htk
          have Hct := Lib.hid hct
          rw [htk] at hwq1
          clear hc hx hxm htk hct hB
          go_wp2_with fail
          refine Hc.out.mono ?_
          clear Hc
          rintro e w2 ⟨_, rfl, hb2, l2, a2, c2', rfl, hr2, hri2, hm2⟩
          have hl2 := rising_len hri2 hm2
          have Hb2 := Lib.hid (hb.out.trans (hb2.mono hb.out.size))
          have Hr2 := Lib.hid hr2
          have Hm2 := Lib.hid hm2
          have Hrow2 := Lib.hid (hrow.out.ext hb2)
          clear hb2 hr2 hri2 hm2
          go_wp2_with fail
          go_loopw [3, 6] (fun o i wr => ∃ (j : Nat) (o2 : List Nm) (ao : Option Addr) (co : Nat), j ≤ l2.length ∧ i = .int .i64 j ∧ o = .slice ao o2.length co ∧ Hid (RowC wr ao co o2) ∧ Hid (o2.Pairwise fun x y => x < y) ∧ Hid (∀ x, x ∈ o2 ↔ x ∈ out ∨ x ∈ l2.take j) ∧ o2.length ≤ out.length + j ∧ Hid (Below w2.heap.size w2 wr)) (fun _ i _ => l2.length - (intOf i).toNat)
          case atStart => exact ⟨0, out, ao, co, Nat.zero_le _, rfl, rfl, Hrow2, hris, Lib.hid (by simp), by omega, Lib.hid (Below.refl _ _)⟩
          case round =>
            obtain ⟨j, o2, ao2, co2, hj, rfl, rfl, hrow2, hris2, hmem2, hol2, hbj⟩ := hrel
            by_cases hlt2 : j < l2.length
            · obtain ⟨y, hy⟩ := get_some hlt2
              obtain ⟨yb, yo, rfl, y0⟩ := str_at (Hr2.out.1.ext hbj.out) hy
              have hput := put_any ao2 co2 o2 y wr hrow2.out hris2.out (by omega)
              have Hput := Lib.hid hput
              have Hty : Hid (l2.take (j + 1) = l2.take j ++ [y]) := Lib.hid (by rw [List.take_add_one, hy]; rfl)
              clear hy hput
              go_wp2_with fail
              refine Hput.out.mono ?_
              clear Hput
              rintro e w3 ⟨_, rfl, hb3, l3, a3, c3', rfl, hr3, hri3, hm3, hl3, -⟩
              have Hr3 := Lib.hid hr3
              have Hri3 := Lib.hid hri3
              have Hm3 := Lib.hid hm3
              have Hb3 := Lib.hid (hbj.out.trans (hb3.mono hbj.out.size))
              clear hr3 hri3 hm3 hb3
              go_wp2
              go_roundw
              case rel => exact ⟨j + 1, l3, a3, c3', by omega, by go_num, rfl, Hr3, Hri3, Lib.hid (fun x => by rw [Hm3.out, hmem2.out, Hty.out, List.mem_append, List.mem_singleton, or_assoc]), by omega, Hb3⟩
              case measure => simp [intOf]; omega
            · obtain rfl : j = l2.length := by omega
              have Hm3 : Hid (∀ x', x' ∈ o2 ↔ x' ∈ [t] ∨ x' ∈ calledIn (pres (ks.take (q + 1)))) := Lib.hid fun x' => by
                rw [hmem2.out, List.take_length, hmem.out, Hm2.out, Hct.out, List.mem_append, or_assoc]
              have Hb3 := Lib.hid (Hb2.out.trans (hbj.out.mono Hb2.out.size))
              go_wp2
              go_roundw
              case rel => exact ⟨q + 1, o2, ao2, co2, by omega, by go_num, rfl, hrow2, hris2, Hm3, by rw [Htk.out]; omega, Hb3⟩
              case measure => simp [intOf]; omega
        · obtain rfl : q = ks.length := by omega
          have hmem' := hmem.out
          rw [List.take_length] at hmem'
          go_wp2
          go_ret
          exact ⟨_, rfl, Hb1.out.trans (hb.out.mono Hb1.out.size), out, ao, co, rfl, hrow.out, hris.out, fun x => by rw [hmem' x, List.mem_append]⟩
    · have fk : (k == [99, 97, 108, 108]) = false := by simpa [callNm0] using hkc
      rw [if_neg hkc] at hst
      subst hst
      clear hkc
      go_wp2_with fail
      obtain ⟨w1, hw1⟩ : ∃ w1, w1 = W.alloc (.cells #[.string ⟨k.toArray⟩, .string ⟨t.toArray⟩, .int .i64 lo, .int .i64 hi, .slice a ks.length c] 24) := ⟨_, rfl⟩
      have hb1 : Below W.heap.size W w1 := by rw [hw1]; exact below_a1 _ _
      have hx4 : w1.cell? ⟨W.heap.size, 4, none⟩ = some (.slice a ks.length c) := by rw [hw1]; exact (Blk.new rfl).cell 4
      have hr1 : RowC w1 none 0 [] := RowC.nil _
      have Hb1 := Lib.hid hb1
      have Hr1 := Lib.hid hr1
      have hW1 : W.heap.size < w1.heap.size := by rw [hw1]; simp
      try rw [← hw1]
      clear hw1 hb1 hr1
      go_loopw [3, 4] (fun o i wr => ∃ (q : Nat) (out : List Nm) (ao : Option Addr) (co : Nat), q ≤ ks.length ∧ i = .int .i64 q ∧ o = .slice ao out.length co ∧ Hid (RowC wr ao co out) ∧ Hid (out.Pairwise fun x y => x < y) ∧ Hid (∀ x, x ∈ out ↔ x ∈ ([] : List Nm) ∨ x ∈ calledIn (pres (ks.take q))) ∧ out.length ≤ 1 + weight (pres (ks.take q)) ∧ Hid (Below w1.heap.size w1 wr)) (fun _ i _ => ks.length - (intOf i).toNat)
      case atStart => exact ⟨0, ([] : List Nm), none, 0, Nat.zero_le _, rfl, rfl, Hr1, HST, Lib.hid (by simp [calledIn, pres]), by simp, Lib.hid (Below.refl _ _)⟩
      case round =>
        obtain ⟨q, out, ao, co, hq, rfl, rfl, hrow, hris, hmem, hol, hb⟩ := hrel
        have hy4 := (hb.out.cell (p := ⟨W.heap.size, 4, none⟩) hW1).trans hx4
        have hwq := HW.out q
        by_cases hlt : q < ks.length
        · obtain ⟨x, hx⟩ := get_some hlt
          have hB := Hb1.out.trans (hb.out.mono Hb1.out.size)
          obtain ⟨b, off, rfl, c0, c1, c2, c3, c4⟩ := part_at (HR.out.ext hB) hx
          have hxm := List.mem_of_getElem? hx
          have htk := weight_take hx
          have hwq1 := HW.out (q + 1)
          have hct := calledIn_take hx
          have hcx := calledIn_len (pre x)
          have hc := HI.out x hxm (by omega) wr hB
          rw [PartD.val_eq] at hc
          have Hc := Lib.hid hc
          have Htk := Lib.hid htk
          have Hct := Lib.hid hct
          rw [htk] at hwq1
          clear hc hx hxm htk hct hB
          go_wp2_with fail
          refine Hc.out.mono ?_
          clear Hc
          rintro e w2 ⟨_, rfl, hb2, l2, a2, c2', rfl, hr2, hri2, hm2⟩
          have hl2 := rising_len hri2 hm2
          have Hb2 := Lib.hid (hb.out.trans (hb2.mono hb.out.size))
          have Hr2 := Lib.hid hr2
          have Hm2 := Lib.hid hm2
          have Hrow2 := Lib.hid (hrow.out.ext hb2)
          clear hb2 hr2 hri2 hm2
          go_wp2_with fail
          go_loopw [3, 6] (fun o i wr => ∃ (j : Nat) (o2 : List Nm) (ao : Option Addr) (co : Nat), j ≤ l2.length ∧ i = .int .i64 j ∧ o = .slice ao o2.length co ∧ Hid (RowC wr ao co o2) ∧ Hid (o2.Pairwise fun x y => x < y) ∧ Hid (∀ x, x ∈ o2 ↔ x ∈ out ∨ x ∈ l2.take j) ∧ o2.length ≤ out.length + j ∧ Hid (Below w2.heap.size w2 wr)) (fun _ i _ => l2.length - (intOf i).toNat)
          case atStart => exact ⟨0, out, ao, co, Nat.zero_le _, rfl, rfl, Hrow2, hris, Lib.hid (by simp), by omega, Lib.hid (Below.refl _ _)⟩
          case round =>
            obtain ⟨j, o2, ao2, co2, hj, rfl, rfl, hrow2, hris2, hmem2, hol2, hbj⟩ := hrel
            by_cases hlt2 : j < l2.length
            · obtain ⟨y, hy⟩ := get_some hlt2
              obtain ⟨yb, yo, rfl, y0⟩ := str_at (Hr2.out.1.ext hbj.out) hy
              have hput := put_any ao2 co2 o2 y wr hrow2.out hris2.out (by omega)
              have Hput := Lib.hid hput
              have Hty : Hid (l2.take (j + 1) = l2.take j ++ [y]) := Lib.hid (by rw [List.take_add_one, hy]; rfl)
              clear hy hput
              go_wp2_with fail
              refine Hput.out.mono ?_
              clear Hput
              rintro e w3 ⟨_, rfl, hb3, l3, a3, c3', rfl, hr3, hri3, hm3, hl3, -⟩
              have Hr3 := Lib.hid hr3
              have Hri3 := Lib.hid hri3
              have Hm3 := Lib.hid hm3
              have Hb3 := Lib.hid (hbj.out.trans (hb3.mono hbj.out.size))
              clear hr3 hri3 hm3 hb3
              go_wp2
              go_roundw
              case rel => exact ⟨j + 1, l3, a3, c3', by omega, by go_num, rfl, Hr3, Hri3, Lib.hid (fun x => by rw [Hm3.out, hmem2.out, Hty.out, List.mem_append, List.mem_singleton, or_assoc]), by omega, Hb3⟩
              case measure => simp [intOf]; omega
            · obtain rfl : j = l2.length := by omega
              have Hm3 : Hid (∀ x', x' ∈ o2 ↔ x' ∈ ([] : List Nm) ∨ x' ∈ calledIn (pres (ks.take (q + 1)))) := Lib.hid fun x' => by
                rw [hmem2.out, List.take_length, hmem.out, Hm2.out, Hct.out, List.mem_append, or_assoc]
              have Hb3 := Lib.hid (Hb2.out.trans (hbj.out.mono Hb2.out.size))
              go_wp2
              go_roundw
              case rel => exact ⟨q + 1, o2, ao2, co2, by omega, by go_num, rfl, hrow2, hris2, Hm3, by rw [Htk.out]; omega, Hb3⟩
              case measure => simp [intOf]; omega
        · obtain rfl : q = ks.length := by omega
          have hmem' := hmem.out
          rw [List.take_length] at hmem'
          go_wp2
          go_ret
          exact ⟨_, rfl, Hb1.out.trans (hb.out.mono Hb1.out.size), out, ao, co, rfl, hrow.out, hris.out, fun x => by rw [hmem' x, List.mem_append]⟩
end Go.Proofs.Ytnepamdmjppglaa
