/- How large a value is: walked. -/
import Derived.Test.YtahiopjplfnlmaaGreatDoorAliv
namespace Go.Proofs.YtahiopjplfnlmaaGreatDoor
open Go Go.RowKit

/-- how large keys are -/
def keysN (l : List Nm) : Nat := (l.map fun k => 1 + k.length).sum
theorem keysN_take {l : List Nm} {i : Nat} {x : Nm} (hx : l[i]? = some x) : keysN (l.take (i + 1)) = keysN (l.take i) + (1 + x.length) := by
  unfold keysN; rw [List.take_add_one, hx, Option.toList_some, List.map_append, List.sum_append]; simp
theorem keysN_le (l : List Nm) (i : Nat) : keysN (l.take i) ≤ keysN l := by
  unfold keysN
  conv => rhs; rw [← List.take_append_drop i l, List.map_append, List.sum_append]
  omega
theorem sizesV_take {l : List VD} {i : Nat} {x : VD} (hx : l[i]? = some x) : sizesV ((l.take (i + 1)).map VD.v) = sizesV ((l.take i).map VD.v) + sizeV x.v := by
  rw [List.take_add_one, hx, Option.toList_some, List.map_append, sizesV_app]; simp [sizesV]
theorem sizesV_le (l : List VD) (i : Nat) : sizesV ((l.take i).map VD.v) ≤ sizesV (l.map VD.v) := by
  conv => rhs; rw [← List.take_append_drop i l, List.map_append, sizesV_app]
  omega
theorem sizeV_eq (d : VD) : sizeV d.v = 1 + d.text.length + keysN d.keys + sizesV (d.list.map VD.v) := by rw [VD.v_eq, sizeV]; rfl
/-- what six cells of a value of any such type hold -/
theorem Blk.sixT {w : World} {g : Nat} {v0 v1 v2 v3 v4 v5 : Value} {T : TypeId} (h : Blk w g #[v0, v1, v2, v3, v4, v5] T) : w.cell? ⟨g, 0, none⟩ = some v0 ∧ w.cell? ⟨g, 1, none⟩ = some v1 ∧ w.cell? ⟨g, 2, none⟩ = some v2 ∧ w.cell? ⟨g, 3, none⟩ = some v3 ∧ w.cell? ⟨g, 4, none⟩ = some v4 ∧ w.cell? ⟨g, 5, none⟩ = some v5 :=
  ⟨h.cell 0, h.cell 1, h.cell 2, h.cell 3, h.cell 4, h.cell 5⟩
/-- how large: told up to 400 -/
def SizE (w : World) (s : Nat) (e : Ending) (w' : World) : Prop := ∃ m : Nat, e = .returned (.int .i64 m) ∧ m ≤ s ∧ (m ≤ 400 → m = s) ∧ Below w.heap.size w w'
theorem keysN_len (l : List Nm) : l.length ≤ keysN l := by
  unfold keysN
  induction l with
  | nil => simp
  | cons a l ih => simp only [List.map_cons, List.sum_cons, List.length_cons]; omega

set_option maxHeartbeats 4000000 in
theorem size_any (d : VD) : ∀ (W : World), ValAt W (fun _ => True) d → sizeV d.v ≤ 1048576 → Calls Tryz.prog 7 #[d.val] W (SizE W (sizeV d.v)) := by
  induction d using VD.ind with
  | h s o n t a c ks ka kc keys ih =>
    intro W h hw
    have hwt := sizeV_eq (.mk s o n t a c ks ka kc keys)
    simp only [VD.text, VD.keys, VD.list] at hwt
    rw [hwt] at hw ⊢
    have hks : ks.length ≤ sizesV (ks.map VD.v) := by have := sizesV_len (ks.map VD.v); simpa using this
    have hkl := keysN_len keys
    have HR := Lib.hid h.row
    have HKR := Lib.hid h.krow
    simp only [VD.keys, VD.list, VD.ka, VD.a] at HR HKR
    have HKID : Hid (∀ x ∈ ks, ValAt W (fun _ => True) x) := Lib.hid h.kid
    have HW : Hid (∀ i, sizesV ((ks.take i).map VD.v) ≤ sizesV (ks.map VD.v)) := Lib.hid (sizesV_le ks)
    have HK : Hid (∀ i, keysN (keys.take i) ≤ keysN keys) := Lib.hid (keysN_le keys)
    have HI : Hid (∀ x ∈ ks, ∀ V, ValAt V (fun _ => True) x → sizeV x.v ≤ 1048576 → Calls Tryz.prog 7 #[x.val] V (SizE V (sizeV x.v))) := Lib.hid fun x hx V hV hs => ih x hx V hV hs
    clear ih h hwt
    generalize hKN : keysN keys = KN at *
    generalize hSN : sizesV (ks.map VD.v) = SN at *
    have HKN := Lib.hid hKN
    have HSN := Lib.hid hSN
    clear hKN hSN
    unfold VD.val VD.cells strV
    go_enter Tryz.func7, Tryz.ntmps7
    go_wp2_with fail
    obtain ⟨w1, hw1⟩ : ∃ w1, w1 = W.alloc (.cells #[.int .i64 s, .bool o, .int .i64 n, .string ⟨t.toArray⟩, .slice a ks.length c, .slice ka keys.length kc] 26) := ⟨_, rfl⟩
    have hb1 : Below W.heap.size W w1 := by rw [hw1]; exact below_a1 _ _
    have HBL : Hid (Blk w1 W.heap.size #[.int .i64 s, .bool o, .int .i64 n, .string ⟨t.toArray⟩, .slice a ks.length c, .slice ka keys.length kc] 26) := Lib.hid (by rw [hw1]; exact Blk.new rfl)
    have Hb1 := Lib.hid hb1
    try rw [← hw1]
    clear hw1 hb1
    go_loopw [3, 4] (fun n i wr => ∃ (q m : Nat), q ≤ keys.length ∧ i = .int .i64 q ∧ n = .int .i64 m ∧ m = 1 + t.length + keysN (keys.take q) ∧ Hid (Below w1.heap.size w1 wr)) (fun _ i _ => keys.length - (intOf i).toNat)
    case atStart => exact ⟨0, 1 + t.length, Nat.zero_le _, rfl, by first | rfl | go_num, by simp [keysN], Lib.hid (Below.refl _ _)⟩
    case round =>
      obtain ⟨q, m, hq, rfl, rfl, hm, hb⟩ := hrel
      have hwq := HK.out q
      obtain ⟨y0, y1, y2, y3, y4, y5⟩ := (HBL.out.ext hb.out).sixT
      by_cases hlt : q < keys.length
      · obtain ⟨x, hx⟩ := get_some hlt
        have hB := Hb1.out.trans (hb.out.mono Hb1.out.size)
        obtain ⟨yb, yo, rfl, yk⟩ := (HKR.out.ext hB).elem1 hx
        unfold strV at yk
        have hkt := keysN_take hx
        have hwq1 := HK.out (q + 1)
        rw [hkt] at hwq1
        have Hkt := Lib.hid hkt
        have hmb : m + 1 + x.length ≤ 1048577 := by omega
        have HM := Lib.hid hm
        clear hkt hx hm hB
        go_wp2
        go_roundw
        case rel => exact ⟨q + 1, m + 1 + x.length, by omega, by go_num, by go_num, by rw [Hkt.out]; have := HM.out; omega, hb⟩
        case measure => simp [intOf]; omega
      · obtain rfl : q = keys.length := by omega
        rw [List.take_length] at hm hwq
        rw [HKN.out] at hm hwq
        have HB2 := Lib.hid (Hb1.out.trans (hb.out.mono Hb1.out.size))
        have HBL2 := Lib.hid (HBL.out.ext hb.out)
        clear hb hwq
        go_wp2_with fail
        clear y0 y1 y2 y3 y4 y5
        go_loopw [3, 5] (fun n i wr' => ∃ (q m : Nat), q ≤ ks.length ∧ i = .int .i64 q ∧ n = .int .i64 m ∧ m ≤ 1 + t.length + KN + sizesV ((ks.take q).map VD.v) ∧ (m ≤ 400 → m = 1 + t.length + KN + sizesV ((ks.take q).map VD.v)) ∧ Hid (Below wr.heap.size wr wr')) (fun _ i _ => ks.length - (intOf i).toNat)
        case atStart => exact ⟨0, m, Nat.zero_le _, rfl, rfl, by simp [sizesV]; omega, fun _ => by simp [sizesV]; omega, Lib.hid (Below.refl _ _)⟩
        case round =>
          obtain ⟨q2, m2, hq2, rfl, rfl, hm2, hm3, hb⟩ := hrel
          have hwq := HW.out q2
          obtain ⟨y0, y1, y2, y3, y4, y5⟩ := (HBL2.out.ext hb.out).sixT
          by_cases hlt : q2 < ks.length
          · by_cases hm4 : m2 ≤ 400
            · obtain ⟨x, hx⟩ := get_some hlt
              have hB := HB2.out.trans (hb.out.mono HB2.out.size)
              obtain ⟨b, off, rfl, c0, c1, c2, c3, c4, c5⟩ := val_at (HR.out.ext hB) hx
              have hxm := List.mem_of_getElem? hx
              have htk := sizesV_take hx
              have hwq1 := HW.out (q2 + 1)
              rw [htk] at hwq1
              have hc := HI.out x hxm _ ((HKID.out x hxm).ext hB) (by omega)
              rw [VD.val6] at hc
              have Hc := Lib.hid hc
              have Htk := Lib.hid htk
              have HM3 := Lib.hid (hm3 hm4)
              unfold strV at c3
              clear hc hx hxm htk hB hm3
              go_wp2_with fail
              refine Hc.out.mono ?_
              clear Hc
              rintro e w2 ⟨mx, rfl, hmx, hmx2, hb2⟩
              have Hb2 := Lib.hid (hb.out.trans (hb2.mono hb.out.size))
              have HMX := Lib.hid hmx2
              clear hb2 hmx2
              go_wp2
              go_roundw
              case rel => exact ⟨q2 + 1, m2 + mx, by omega, by go_num, by go_num, by rw [Htk.out]; omega, fun h => by rw [Htk.out]; have := HM3.out; have := HMX.out (by omega); omega, Hb2⟩
              case measure => simp [intOf]; omega
            · have HM3 := Lib.hid hm3
              clear hm3
              go_wp2
              go_ret
              exact ⟨m2, rfl, by omega, fun h => by omega, HB2.out.trans (hb.out.mono HB2.out.size)⟩
          · obtain rfl : q2 = ks.length := by omega
            rw [List.take_length, HSN.out] at hm2 hm3
            have HM3 := Lib.hid hm3
            clear hm3
            go_wp2
            go_ret
            exact ⟨m2, rfl, by omega, fun h => by have := HM3.out h; omega, HB2.out.trans (hb.out.mono HB2.out.size)⟩
end Go.Proofs.YtahiopjplfnlmaaGreatDoor
