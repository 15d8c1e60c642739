/- A value's text: walked. -/
import Derived.Test.YtahiopjplfnlmaaGreatDoorTxt
namespace Go.Proofs.YtahiopjplfnlmaaGreatDoor
open Go Go.RowKit

theorem join_commas : ∀ l : List Nm, Lib.join l [44] = commas l
  | [] => rfl
  | [x] => by simp [Lib.join, commas]
  | x :: y :: l => by
    have := join_commas (y :: l)
    simp [Lib.join, commas] at this ⊢
    exact this
set_option maxHeartbeats 1000000 in
theorem between_any (b e : UInt8) (a : Option Addr) (c : Nat) (L : List Nm) (w : World) (h : Row w 1 a L.length (L.map strV)) (hl : L.length ≤ 1048576) (hc : L.length ≤ c) (hlen : (commas L).length ≤ 140737488355328) :
    Calls Tryz.prog 34 #[.string ⟨#[b]⟩, .string ⟨#[e]⟩, .slice a L.length c] w (fun r w' => r = .returned (.string ⟨(b :: (commas L ++ [e])).toArray⟩) ∧ Below w.heap.size w w') := by
  have hj : Calls Tryz.prog 52 #[.slice a L.length c, .string ⟨#[44]⟩] w (fun r w' => r = .returned (.string ⟨(commas L).toArray⟩) ∧ Below w.heap.size w w') := by
    cases L with
    | nil => exact (Tryz.strings_Join_none a c ⟨#[44]⟩ w).mono fun r w' ⟨h1, h2⟩ => ⟨h1, by rw [h2]; exact Below.refl _ _⟩
    | cons x l =>
      generalize hL : x :: l = L at *
      obtain ⟨bk, off, rfl, hcell⟩ := h.2 (by rw [← hL]; simp)
      have key := Tryz.strings_Join bk off c (L.map fun x => (⟨x.toArray⟩ : ByteArray)) ⟨#[44]⟩ w (fun j y hy => by
        rw [List.getElem?_map] at hy
        cases hz : L[j]? with
        | none => rw [hz] at hy; cases hy
        | some z =>
          rw [hz] at hy
          injection hy with hy
          have hjl : j < L.length := (List.getElem?_eq_some_iff.1 hz).1
          have := hcell j (by omega)
          rw [this, List.getElem?_map, hz, ← hy]
          rfl) (by have h0 := hcell 0 (by rw [← hL]; simp); rw [← hL] at h0; exact cell_lt h0) (by simp; omega) (by simpa using hc) (by
          rw [List.map_map, show ((fun x : ByteArray => x.data.toList) ∘ fun x : Nm => (⟨x.toArray⟩ : ByteArray)) = id from rfl, List.map_id, show (⟨#[44]⟩ : ByteArray).data.toList = [44] from rfl, join_commas]; exact hlen)
      rw [List.map_map, show ((fun x : ByteArray => x.data.toList) ∘ fun x : Nm => (⟨x.toArray⟩ : ByteArray)) = id from rfl, List.map_id, show (⟨#[44]⟩ : ByteArray).data.toList = [44] from rfl, join_commas, List.length_map] at key
      exact key
  have HJ := Lib.hid hj
  clear hj h
  go_enter Tryz.func34, Tryz.ntmps34
  go_wp2_with fail
  refine HJ.out.mono ?_
  rintro r w2 ⟨rfl, hb⟩
  have HB := Lib.hid hb
  clear hb HJ
  go_wp2
  go_ret
  exact ⟨by
    rw [show (⟨#[b]⟩ : ByteArray) = ⟨([b] : Nm).toArray⟩ from rfl, show (⟨#[e]⟩ : ByteArray) = ⟨([e] : Nm).toArray⟩ from rfl, cat_nm, cat_nm]; rfl, HB.out⟩

/-- the texts of a list's values, or a record's -/
def partsT (d : VD) : List Nm := if d.sort = 5 then textKs (d.list.map VD.v) d.keys else textsV (d.list.map VD.v)
theorem textKs_at : ∀ (l : List V) (ks : List Nm) (k : Nat) {v : V} {x : Nm}, l[k]? = some v → ks[k]? = some x → (textKs l ks)[k]? = some (quoted x ++ 58 :: textV v)
  | [], _, _, _, _, h, _ => by simp at h
  | _ :: _, [], _, _, _, _, h => by simp at h
  | y :: l, z :: ks, 0, v, x, h, h2 => by
    simp at h h2
    subst h; subst h2
    simp [textKs]
  | y :: l, z :: ks, k + 1, v, x, h, h2 => by
    simp at h h2
    simpa [textKs] using textKs_at l ks k h h2
theorem textKs_length : ∀ (l : List V) (ks : List Nm), (textKs l ks).length = l.length
  | [], _ => rfl
  | _ :: l, ks => by simp [textKs, textKs_length l]
theorem partsT_len (d : VD) : (partsT d).length = d.list.length := by
  unfold partsT
  split
  · rw [textKs_length, List.length_map]
  · rw [textsV_map, List.length_map, List.length_map]
/-- what text holds while it goes over the list -/
structure TB (w W : World) (d : VD) (a : Option Addr) (k c : Nat) : Prop where
  val : Blk W w.heap.size #[.int .i64 d.sort, .bool d.on, .int .i64 d.n, .string ⟨d.text.toArray⟩, .slice d.a d.list.length d.c, .slice d.ka d.keys.length d.kc] 34
  own : Own W (w.heap.size + 1) 9 1 a k c (((partsT d).take k).map strV)
  below : Below w.heap.size w W
theorem TB.ext {w W W' : World} {d : VD} {a : Option Addr} {k c : Nat} (h : TB w W d a k c) (hb : Below W.heap.size W W') : TB w W' d a k c := ⟨h.val.ext hb, h.own.ext hb, h.below.trans (hb.mono h.below.size)⟩
theorem TB.push {w W W' : World} {d : VD} {a a' : Option Addr} {k c c' : Nat} (h : TB w W d a k c) {x : Nm} (hx : (partsT d)[k]? = some x) {o : Obj} (ho : Own W' (w.heap.size + 1) 9 1 a' (k + 1) c' (((partsT d).take k).map strV ++ [strV x])) (hg : (W.alloc o).grownBy W' (rowOf a c)) : TB w W' d a' (k + 1) c' :=
  ⟨(h.val.alloc o).grown hg (h.own.apart (by omega)), by rw [take_one hx, List.map_append]; exact ho, (h.below.alloc h.below.size o).grown hg (by have := h.below.size; simp; omega) (fun j hj => by have := h.own.rowBase (Nat.le_refl _) j hj; omega)⟩
/-- text is told of any value -/
def TextAt (d : VD) : Prop := ∀ w : World, Glob w → ValAt w (fun _ => True) d → formed d.v = true → sizeV d.v ≤ 1048576 → Calls Tryz.prog 20 #[d.val] w (fun e w' => e = .returned (.string ⟨(textV d.v).toArray⟩) ∧ Below w.heap.size w w')

theorem formed_head {d : VD} (h : formed d.v = true) : headOk d.sort d.on d.n d.text d.list.length d.keys = true ∧ ∀ x ∈ d.list, formed x.v = true := by
  rw [VD.v_eq, formed, Bool.and_eq_true, formeds_all, List.all_eq_true, List.length_map] at h
  exact ⟨h.1, fun x hx => h.2 _ (List.mem_map_of_mem hx)⟩
theorem headOk_n {s : Int} {o : Bool} {n : Int} {t : Nm} {m : Nat} {ks : List Nm} (h : headOk s o n t m ks = true) : -9007199254740992 ≤ n ∧ n ≤ 9007199254740992 ∧ (s = 5 → ks.length = m) := by
  unfold headOk at h
  simp only [Bool.and_eq_true, decide_eq_true_eq] at h
  refine ⟨h.1.1.1.1.2, h.1.1.1.2, fun h5 => ?_⟩
  have := h.2
  rw [if_pos h5] at this
  simpa using this
set_option maxHeartbeats 4000000 in
theorem text_leaf (d : VD) (w : World) (hG : Glob w) (hf : formed d.v = true) (hs : sizeV d.v ≤ 1048576) (h4 : d.sort < 4) : Calls Tryz.prog 20 #[d.val] w (fun e w' => e = .returned (.string ⟨(textV d.v).toArray⟩) ∧ Below w.heap.size w w') := by
  obtain ⟨hh, -⟩ := formed_head hf
  have hsrt := headOk_sort hh
  obtain ⟨hn1, hn2, -⟩ := headOk_n hh
  have hsz : sizeV (.mk d.sort d.on d.n d.text (d.list.map VD.v) d.keys) ≤ 1048576 := by rw [← VD.v_eq]; exact hs
  obtain ⟨s1, -⟩ := size_parts hsz
  have ht : textV d.v = if d.sort = 1 then (if d.on then trueL else falseL) else if d.sort = 2 then Lib.itoa d.n else if d.sort = 3 then quoted d.text else nullL := by
    rw [VD.v_eq, textV]
    by_cases a : d.sort = 1
    · simp [a]
    by_cases b : d.sort = 2
    · simp [b]
    by_cases c : d.sort = 3
    · simp [c]
    have : d.sort = 0 := by omega
    simp [this]
  generalize textV d.v = T at *
  have hb := below_a1 w (.cells #[.int .i64 d.sort, .bool d.on, .int .i64 d.n, .string ⟨d.text.toArray⟩, .slice d.a d.list.length d.c, .slice d.ka d.keys.length d.kc] 34)
  have hg0 := hG.ext hb
  have HB := Lib.hid hb
  have HG := Lib.hid hg0
  have HT := Lib.hid ht
  have HN := Lib.hid (And.intro hn1 hn2)
  rw [VD.val6]
  generalize hsd : d.sort = sd at *
  clear hb hg0 hG ht hh hsz hs hf hn1 hn2 hsd
  by_cases a1 : sd = 1
  · subst a1
    have Ht : Hid (T = if d.on then trueL else falseL) := Lib.hid (by rw [HT.out]; rfl)
    clear HT
    go_enter Tryz.func20, Tryz.ntmps20
    go_wp2_with fail
    refine (Tryz.strconv_FormatBool d.on _).mono ?_
    rintro e w2 ⟨rfl, rfl⟩
    go_wp2
    go_ret
    exact ⟨by rw [Ht.out]; cases d.on <;> rfl, HB.out⟩
  by_cases a2 : sd = 2
  · subst a2
    have Ht : Hid (T = Lib.itoa d.n) := Lib.hid (by rw [HT.out]; rfl)
    clear HT
    go_enter Tryz.func20, Tryz.ntmps20
    go_wp2_with fail
    refine (itoa_any d.n _ HG.out (by have := HN.out; omega)).mono ?_
    rintro e w2 ⟨rfl, hb2⟩
    have HB2 := Lib.hid (HB.out.trans (hb2.mono HB.out.size))
    clear hb2
    go_wp2
    go_ret
    exact ⟨by rw [Ht.out]; rfl, HB2.out⟩
  by_cases a3 : sd = 3
  · subst a3
    have Ht : Hid (T = quoted d.text) := Lib.hid (by rw [HT.out]; rfl)
    clear HT
    go_enter Tryz.func20, Tryz.ntmps20
    go_wp2_with fail
    refine (quoted_any d.text _ (by omega)).mono ?_
    rintro e w2 ⟨rfl, hb2⟩
    have HB2 := Lib.hid (HB.out.trans (hb2.mono HB.out.size))
    clear hb2
    go_wp2
    go_ret
    exact ⟨by rw [Ht.out]; rfl, HB2.out⟩
  obtain rfl : sd = 0 := by omega
  have Ht : Hid (T = nullL) := Lib.hid (by rw [HT.out]; rfl)
  clear HT a1 a2 a3
  go_enter Tryz.func20, Tryz.ntmps20
  go_wp2
  go_ret
  exact ⟨by rw [Ht.out]; rfl, HB.out⟩
end Go.Proofs.YtahiopjplfnlmaaGreatDoor
