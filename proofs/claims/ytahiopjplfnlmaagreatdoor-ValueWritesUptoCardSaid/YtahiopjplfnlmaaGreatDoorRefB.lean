/- The document's Deep, Same and Get; walked. -/
import Derived.Test.YtahiopjplfnlmaaGreatDoorRefA
import Derived.Deep.RegionHeld3
namespace Go.Proofs.YtahiopjplfnlmaaGreatDoor
open Go Go.RowKit

theorem deeps_app : ∀ l m : List V, deeps (l ++ m) = max (deeps l) (deeps m)
  | [], m => by simp [deeps]
  | v :: l, m => by rw [List.cons_append, deeps, deeps, deeps_app l m]; omega
theorem deeps_take {l : List VD} {i : Nat} {x : VD} (hx : l[i]? = some x) : deeps ((l.take (i + 1)).map VD.v) = max (deeps ((l.take i).map VD.v)) (deep x.v) := by
  rw [List.take_add_one, hx, Option.toList_some, List.map_append, deeps_app]; simp [deeps]
theorem deep_size : ∀ v : V, deep v ≤ sizeV v := by
  intro v
  induction v using V.ind with
  | h s o n t l ks ih =>
    have hd : deeps l ≤ sizesV l := (deeps_le l _).2 fun x hx => Nat.le_trans (ih x hx) (sizesV_mem hx)
    rw [deep, sizeV]
    split <;> omega
theorem deep_eq (d : VD) : deep d.v = if d.sort = 4 ∨ d.sort = 5 then deeps (d.list.map VD.v) + 1 else 0 := by rw [VD.v_eq, deep]
def IntE (w : World) (n : Int) (e : Ending) (w' : World) : Prop := e = .returned (.int .i64 n) ∧ Below w.heap.size w w'

set_option maxHeartbeats 4000000 in
theorem deepR_any (d : VD) : ∀ (W : World), ValAt W (fun _ => True) d → sizeV d.v ≤ 1048576 → Calls Tryz.prog 26 #[d.val] W (IntE W (deep d.v)) := by
  induction d using VD.ind with
  | h s o n t a c ks ka kc keys ih =>
    intro W h hw
    have hde := deep_eq (.mk s o n t a c ks ka kc keys)
    have hsz := sizeV_eq (.mk s o n t a c ks ka kc keys)
    simp only [VD.sort, VD.list, VD.text, VD.keys] at hde hsz
    obtain ⟨R, hR⟩ : ∃ R : Nat, R = deep (VD.mk s o n t a c ks ka kc keys).v := ⟨_, rfl⟩
    rw [← hR] at hde ⊢
    have HDE := Lib.hid hde
    rw [hsz] at hw
    have hks : ks.length ≤ sizesV (ks.map VD.v) := by have := sizesV_len (ks.map VD.v); simpa using this
    have hdl : ∀ i, deeps ((ks.take i).map VD.v) ≤ 1048576 := fun i => (deeps_le _ _).2 fun x hx => by
      have h1 := sizesV_mem (l := ks.map VD.v) (x := x) (by
        obtain ⟨y, hy, rfl⟩ := List.mem_map.1 hx
        exact List.mem_map_of_mem (List.mem_of_mem_take hy))
      have h2 := deep_size x
      omega
    have HDL := Lib.hid hdl
    have HR := Lib.hid h.row
    simp only [VD.list, VD.a] at HR
    have HKID : Hid (∀ x ∈ ks, ValAt W (fun _ => True) x) := Lib.hid h.kid
    have HI : Hid (∀ x ∈ ks, ∀ V, ValAt V (fun _ => True) x → Calls Tryz.prog 26 #[x.val] V (IntE V (deep x.v))) := Lib.hid fun x hx V hV => ih x hx V hV (by
      have h1 := sizesV_mem (l := ks.map VD.v) (List.mem_map_of_mem hx)
      omega)
    have hks2 : ks.length ≤ 1048576 := by omega
    clear ih h hdl hw hde hsz hks hR
    unfold VD.val VD.cells strV
    go_enter Tryz.func26, Tryz.ntmps26
    go_wp2_with fail
    obtain ⟨w1, hw1⟩ : ∃ w1, w1 = W.alloc (.cells #[.int .i64 s, .bool o, .int .i64 n, .string ⟨t.toArray⟩, .slice a ks.length c, .slice ka keys.length kc] 26) := ⟨_, rfl⟩
    have hb1 : Below W.heap.size W w1 := by rw [hw1]; exact below_a1 _ _
    have HBL : Hid (Blk w1 W.heap.size #[.int .i64 s, .bool o, .int .i64 n, .string ⟨t.toArray⟩, .slice a ks.length c, .slice ka keys.length kc] 26) := Lib.hid (by rw [hw1]; exact Blk.new rfl)
    have Hb1 := Lib.hid hb1
    try rw [← hw1]
    clear hw1 hb1
    go_loopw [3, 4] (fun n i wr => ∃ (q m : Nat), q ≤ ks.length ∧ i = .int .i64 q ∧ n = .int .i64 m ∧ m ≤ 1048576 ∧ Hid (m = deeps ((ks.take q).map VD.v)) ∧ Hid (Below w1.heap.size w1 wr)) (fun _ i _ => ks.length - (intOf i).toNat)
    case atStart => exact ⟨0, 0, Nat.zero_le _, rfl, rfl, Nat.zero_le _, Lib.hid rfl, Lib.hid (Below.refl _ _)⟩
    case round =>
      obtain ⟨q, m, hq, rfl, rfl, hmb, HM, hb⟩ := hrel
      obtain ⟨y0, y1, y2, y3, y4, y5⟩ := (HBL.out.ext hb.out).sixT
      by_cases hlt : q < ks.length
      · obtain ⟨x, hx⟩ := get_some hlt
        have hB := Hb1.out.trans (hb.out.mono Hb1.out.size)
        obtain ⟨b, off, rfl, c0, c1, c2, c3, c4, c5⟩ := val_at (HR.out.ext hB) hx
        unfold strV at c3
        have hxm := List.mem_of_getElem? hx
        have hc := HI.out x hxm _ ((HKID.out x hxm).ext hB)
        rw [VD.val6] at hc
        have Hc := Lib.hid hc
        have Htk := Lib.hid (deeps_take hx)
        clear hc hx hxm hB
        have hdx : deep x.v ≤ 1048576 := Nat.le_trans (by rw [Htk.out]; omega) (HDL.out (q + 1))
        have HX : Hid (∀ z, z = deep x.v → max m z = deeps ((ks.take (q + 1)).map VD.v)) := Lib.hid fun z hz => by rw [Htk.out, ← HM.out, hz]
        generalize hmx : deep x.v = mx at *
        have HMX := Lib.hid (HX.out mx rfl)
        clear hmx HX
        go_wp2_with fail
        refine Hc.out.mono ?_
        clear Hc
        rintro e w2 ⟨rfl, hb2⟩
        have Hb2 := Lib.hid (hb.out.trans (hb2.mono hb.out.size))
        clear hb2
        go_wp2_with fail
        go_roundw
        case rel => exact ⟨q + 1, max m mx, by omega, by go_num, by first | rfl | (congr 1; omega), by omega, HMX, Hb2⟩
        case measure => simp [intOf]; omega
      · obtain rfl : q = ks.length := by omega
        have HM2 : Hid (deeps (ks.map VD.v) = m) := Lib.hid (by rw [HM.out, List.take_length])
        have HB := Lib.hid (Hb1.out.trans (hb.out.mono Hb1.out.size))
        by_cases h4 : s = 4
        · have HF : Hid (R = m + 1) := Lib.hid ((HDE.out.trans (if_pos (.inl h4))).trans (by rw [HM2.out]))
          subst h4
          go_wp2
          go_ret
          exact ⟨by rw [HF.out]; rfl, HB.out⟩
        · by_cases h5 : s = 5
          · have HF : Hid (R = m + 1) := Lib.hid ((HDE.out.trans (if_pos (.inr h5))).trans (by rw [HM2.out]))
            subst h5
            go_wp2
            go_ret
            exact ⟨by rw [HF.out]; rfl, HB.out⟩
          · have HF : Hid (R = 0) := Lib.hid (HDE.out.trans (if_neg (by omega)))
            have k4 : (s == 4) = false := by simpa using h4
            have k5 : (s == 5) = false := by simpa using h5
            go_wp2
            go_ret
            exact ⟨by rw [HF.out]; rfl, HB.out⟩

structure SBR (w W : World) (d e : VD) : Prop where
  one : Blk W w.heap.size #[.int .i64 d.sort, .bool d.on, .int .i64 d.n, .string ⟨d.text.toArray⟩, .slice d.a d.list.length d.c, .slice d.ka d.keys.length d.kc] 26
  two : Blk W (w.heap.size + 1) #[.int .i64 e.sort, .bool e.on, .int .i64 e.n, .string ⟨e.text.toArray⟩, .slice e.a e.list.length e.c, .slice e.ka e.keys.length e.kc] 26
  below : Below w.heap.size w W
theorem SBR.ext {w W W' : World} {d e : VD} (h : SBR w W d e) (hb : Below W.heap.size W W') : SBR w W' d e := ⟨h.one.ext hb, h.two.ext hb, h.below.trans (hb.mono h.below.size)⟩
set_option maxHeartbeats 8000000 in
theorem sameR_walk (d e : VD) (w : World) (hd : ValAt w (fun _ => True) d) (he : ValAt w (fun _ => True) e) (hs : sizeV d.v ≤ 1048576)
    (hc : ∀ W (j : Nat) x y, Below w.heap.size w W → d.list[j]? = some x → e.list[j]? = some y → Calls Tryz.prog 14 #[x.val, y.val] W (Ret W (IsB (x.v = y.v)))) :
    Calls Tryz.prog 14 #[d.val, e.val] w (Ret w (IsB (d.v = e.v))) := by
  obtain ⟨W0, hW0⟩ : ∃ W0, W0 = (w.alloc (.cells #[.int .i64 d.sort, .bool d.on, .int .i64 d.n, .string ⟨d.text.toArray⟩, .slice d.a d.list.length d.c, .slice d.ka d.keys.length d.kc] 26)).alloc (.cells #[.int .i64 e.sort, .bool e.on, .int .i64 e.n, .string ⟨e.text.toArray⟩, .slice e.a e.list.length e.c, .slice e.ka e.keys.length e.kc] 26) := ⟨_, rfl⟩
  have S0 : Hid (SBR w W0 d e) := Lib.hid (by rw [hW0]; exact ⟨(Blk.new rfl).alloc _, Blk.new (by simp), (below_a1 w _).alloc (by simp) _⟩)
  have hsz : sizeV (.mk d.sort d.on d.n d.text (d.list.map VD.v) d.keys) ≤ 1048576 := by rw [← VD.v_eq]; exact hs
  obtain ⟨s1, s2, s3, s4, s5⟩ := size_parts hsz
  rw [List.length_map] at s3
  clear s4 s5 hsz hs
  have HC := Lib.hid hc
  have HD := Lib.hid hd
  have HE := Lib.hid he
  have hk := strings_any d.ka e.ka d.kc e.kc d.keys e.keys W0 (HD.out.ext S0.out.below).krow (HE.out.ext S0.out.below).krow (by omega)
  have HK := Lib.hid hk
  rw [VD.val6, VD.val6]
  clear hd he hc hk
  go_enter Tryz.func14, Tryz.ntmps14
  go_upto_region 1 with (fail)
  rw [← hW0]
  clear hW0
  have hp := v_same d e
  generalize hP : (d.v = e.v) = P at *
  clear hP
  obtain ⟨c0, c1, c2, c3, c4, c5⟩ := S0.out.one.sixT
  obtain ⟨e0, e1, e2, e3, e4, e5⟩ := S0.out.two.sixT
  go_wp2_with fail
  refine HK.out.mono ?_
  rintro r W1 ⟨v, rfl, hb, bo, rfl, hbo⟩
  have S1 := Lib.hid (S0.out.ext hb)
  clear c0 c1 c2 c3 c4 c5 e0 e1 e2 e3 e4 e5 hb HK S0
  obtain ⟨c0, c1, c2, c3, c4, c5⟩ := S1.out.one.sixT
  obtain ⟨e0, e1, e2, e3, e4, e5⟩ := S1.out.two.sixT
  cases bo with
  | false =>
    have Hn : Hid (¬ P) := Lib.hid (fun h => by have := hbo.2 (hp.1 h).2.2.2.2.1; cases this)
    clear hbo hp
    go_wp2
    go_ret
    exact ⟨_, rfl, S1.out.below, isB_false Hn.out⟩
  | true =>
  have Hk : Hid (d.keys = e.keys) := Lib.hid (hbo.1 rfl)
  clear hbo
  by_cases a1 : d.sort = e.sort
  case neg =>
    have a1' : (d.sort == e.sort) = false := by simpa using a1
    have a1'' : (d.sort != e.sort) = true := by simpa using a1
    have Hn : Hid (¬ P) := Lib.hid (fun h => a1 (hp.1 h).1)
    clear hp a1
    go_wp2
    go_ret
    exact ⟨_, rfl, S1.out.below, isB_false Hn.out⟩
  have a1' : (d.sort == e.sort) = true := by simpa using a1
  have a1'' : (d.sort != e.sort) = false := by simpa using a1
  by_cases a2 : d.on = e.on
  case neg =>
    have a2' : (d.on == e.on) = false := by simpa using a2
    have a2'' : (d.on != e.on) = true := by simpa using a2
    have Hn : Hid (¬ P) := Lib.hid (fun h => a2 (hp.1 h).2.1)
    clear hp a2
    go_wp2
    go_ret
    exact ⟨_, rfl, S1.out.below, isB_false Hn.out⟩
  have a2' : (d.on == e.on) = true := by simpa using a2
  have a2'' : (d.on != e.on) = false := by simpa using a2
  by_cases a3 : d.n = e.n
  case neg =>
    have a3' : (d.n == e.n) = false := by simpa using a3
    have a3'' : (d.n != e.n) = true := by simpa using a3
    have Hn : Hid (¬ P) := Lib.hid (fun h => a3 (hp.1 h).2.2.1)
    clear hp a3
    go_wp2
    go_ret
    exact ⟨_, rfl, S1.out.below, isB_false Hn.out⟩
  have a3' : (d.n == e.n) = true := by simpa using a3
  have a3'' : (d.n != e.n) = false := by simpa using a3
  by_cases a4 : d.text = e.text
  case neg =>
    have a4' : (d.text == e.text) = false := by simpa using a4
    have a4'' : (d.text != e.text) = true := by simpa using a4
    have Hn : Hid (¬ P) := Lib.hid (fun h => a4 (hp.1 h).2.2.2.1)
    clear hp a4
    go_wp2
    go_ret
    exact ⟨_, rfl, S1.out.below, isB_false Hn.out⟩
  have a4' : (d.text == e.text) = true := by simpa using a4
  have a4'' : (d.text != e.text) = false := by simpa using a4
  have HP : Hid (P ↔ d.list.map VD.v = e.list.map VD.v) := Lib.hid (by rw [hp]; simp [a1, a2, a3, a4, Hk.out])
  clear hp a1 a2 a3 a4
  by_cases hn : d.list.length = e.list.length
  case neg =>
    have hn1 : ((d.list.length : Int) == (e.list.length : Int)) = false := by simp; omega
    have hn2 : ((d.list.length : Int) != (e.list.length : Int)) = true := by simp; omega
    have Hn : Hid (¬ P) := Lib.hid (fun h => hn (by have := congrArg List.length (HP.out.1 h); simpa using this))
    clear hn
    go_wp2
    go_ret
    exact ⟨_, rfl, S1.out.below, isB_false Hn.out⟩
  obtain ⟨nl, hnl⟩ : ∃ nl, nl = d.list.length := ⟨_, rfl⟩
  obtain ⟨ea, hea⟩ : ∃ ea, ea = d.a := ⟨_, rfl⟩
  obtain ⟨eb, heb⟩ : ∃ eb, eb = e.a := ⟨_, rfl⟩
  have hS1 : Blk W1 w.heap.size #[.int .i64 d.sort, .bool d.on, .int .i64 d.n, .string ⟨d.text.toArray⟩, .slice ea nl d.c, .slice d.ka d.keys.length d.kc] 26 ∧ Blk W1 (w.heap.size + 1) #[.int .i64 e.sort, .bool e.on, .int .i64 e.n, .string ⟨e.text.toArray⟩, .slice eb nl e.c, .slice e.ka e.keys.length e.kc] 26 := by
    rw [hnl, hea, heb]; exact ⟨S1.out.one, by rw [hn]; exact S1.out.two⟩
  have HS1 := Lib.hid hS1
  rw [← hn] at e4
  rw [← hnl] at c4 e4 s3
  rw [← hea] at c4
  rw [← heb] at e4
  rw [← hn, ← hnl, ← hea, ← heb]
  have HNL := Lib.hid hnl
  have HN2 := Lib.hid (hnl.trans hn)
  have HEA := Lib.hid hea
  have HEB := Lib.hid heb
  clear hn hnl hea heb hS1
  have hn1 : ((nl : Int) != (nl : Int)) = false := by simp
  go_wp2_with fail
  clear c0 c1 c2 c3 c4 c5 e0 e1 e2 e3 e4 e5 a1' a1'' a2' a2'' a3' a3'' a4' a4'' hn1
  go_loopw [6, 7] (fun i _ wr => ∃ k : Nat, k ≤ nl ∧ i = .int .i64 k ∧ Hid (Below W1.heap.size W1 wr ∧ ∀ j, j < k → (d.list.map VD.v)[j]? = (e.list.map VD.v)[j]?)) (fun i _ _ => nl - (intOf i).toNat)
  case atStart => exact ⟨0, Nat.zero_le _, rfl, Lib.hid ⟨Below.refl _ _, fun j h => by omega⟩⟩
  case round =>
    obtain ⟨k, hk, rfl, hq⟩ := hrel
    obtain ⟨c0, c1, c2, c3, c4, c5⟩ := (HS1.out.1.ext hq.out.1).sixT
    obtain ⟨e0, e1, e2, e3, e4, e5⟩ := (HS1.out.2.ext hq.out.1).sixT
    by_cases hlt : k < nl
    · obtain ⟨x, hx⟩ := get_some (l := d.list) (i := k) (by have := HNL.out; omega)
      obtain ⟨y, hy⟩ := get_some (l := e.list) (i := k) (by have := HN2.out; omega)
      have hbw := S1.out.below.trans (hq.out.1.mono S1.out.below.size)
      obtain ⟨ab, ao, hda, v0, v1, v2, v3, v4, v5⟩ := val_at (HD.out.ext hbw).row hx
      obtain ⟨bb, bo, hdb, u0, u1, u2, u3, u4, u5⟩ := val_at (HE.out.ext hbw).row hy
      rw [← HEA.out] at hda
      rw [← HEB.out] at hdb
      subst hda hdb
      have HCX : Hid (∀ W, Below wr.heap.size wr W → Calls Tryz.prog 14 #[.agg #[.int .i64 x.sort, .bool x.on, .int .i64 x.n, .string ⟨x.text.toArray⟩, .slice x.a x.list.length x.c, .slice x.ka x.keys.length x.kc], .agg #[.int .i64 y.sort, .bool y.on, .int .i64 y.n, .string ⟨y.text.toArray⟩, .slice y.a y.list.length y.c, .slice y.ka y.keys.length y.kc]] W (Ret W (IsB (x.v = y.v)))) := Lib.hid fun W hW => by
        have := HC.out W k x y (hbw.trans (hW.mono hbw.size)) hx hy
        rwa [VD.val6, VD.val6] at this
      have Hx := Lib.hid hx
      have Hy := Lib.hid hy
      have HS : Hid (∀ w', Below wr.heap.size wr w' → w'.cell? ⟨w.heap.size, 4, none⟩ = some (.slice (some ⟨ab, ao, none⟩) nl d.c) ∧ w'.cell? ⟨w.heap.size + 1, 4, none⟩ = some (.slice (some ⟨bb, bo, none⟩) nl e.c) ∧ (w'.cell? ⟨ab, ao + k * 6, none⟩ = some (.int .i64 x.sort) ∧ w'.cell? ⟨ab, ao + k * 6 + 1, none⟩ = some (.bool x.on) ∧ w'.cell? ⟨ab, ao + k * 6 + 2, none⟩ = some (.int .i64 x.n) ∧ w'.cell? ⟨ab, ao + k * 6 + 3, none⟩ = some (.string ⟨x.text.toArray⟩) ∧ w'.cell? ⟨ab, ao + k * 6 + 4, none⟩ = some (.slice x.a x.list.length x.c) ∧ w'.cell? ⟨ab, ao + k * 6 + 5, none⟩ = some (.slice x.ka x.keys.length x.kc)) ∧ (w'.cell? ⟨bb, bo + k * 6, none⟩ = some (.int .i64 y.sort) ∧ w'.cell? ⟨bb, bo + k * 6 + 1, none⟩ = some (.bool y.on) ∧ w'.cell? ⟨bb, bo + k * 6 + 2, none⟩ = some (.int .i64 y.n) ∧ w'.cell? ⟨bb, bo + k * 6 + 3, none⟩ = some (.string ⟨y.text.toArray⟩) ∧ w'.cell? ⟨bb, bo + k * 6 + 4, none⟩ = some (.slice y.a y.list.length y.c) ∧ w'.cell? ⟨bb, bo + k * 6 + 5, none⟩ = some (.slice y.ka y.keys.length y.kc))) := Lib.hid fun w' hW => ⟨below_ext hW c4, below_ext hW e4, val_cells hW v0 v1 v2 v3 v4 v5, val_cells hW u0 u1 u2 u3 u4 u5⟩
      have hkl : (k : Int) < nl := by omega
      clear hx hy hbw v0 v1 v2 v3 v4 v5 u0 u1 u2 u3 u4 u5
      go_upto_region 7 with (fail)
      refine wp_region_held_drew (S := fun w' => w'.cell? ⟨w.heap.size, 4, none⟩ = some (.slice (some ⟨ab, ao, none⟩) nl d.c) ∧ w'.cell? ⟨w.heap.size + 1, 4, none⟩ = some (.slice (some ⟨bb, bo, none⟩) nl e.c) ∧ (w'.cell? ⟨ab, ao + k * 6, none⟩ = some (.int .i64 x.sort) ∧ w'.cell? ⟨ab, ao + k * 6 + 1, none⟩ = some (.bool x.on) ∧ w'.cell? ⟨ab, ao + k * 6 + 2, none⟩ = some (.int .i64 x.n) ∧ w'.cell? ⟨ab, ao + k * 6 + 3, none⟩ = some (.string ⟨x.text.toArray⟩) ∧ w'.cell? ⟨ab, ao + k * 6 + 4, none⟩ = some (.slice x.a x.list.length x.c) ∧ w'.cell? ⟨ab, ao + k * 6 + 5, none⟩ = some (.slice x.ka x.keys.length x.kc)) ∧ (w'.cell? ⟨bb, bo + k * 6, none⟩ = some (.int .i64 y.sort) ∧ w'.cell? ⟨bb, bo + k * 6 + 1, none⟩ = some (.bool y.on) ∧ w'.cell? ⟨bb, bo + k * 6 + 2, none⟩ = some (.int .i64 y.n) ∧ w'.cell? ⟨bb, bo + k * 6 + 3, none⟩ = some (.string ⟨y.text.toArray⟩) ∧ w'.cell? ⟨bb, bo + k * 6 + 4, none⟩ = some (.slice y.a y.list.length y.c) ∧ w'.cell? ⟨bb, bo + k * 6 + 5, none⟩ = some (.slice y.ka y.keys.length y.kc))) (by kernel_rfl) ?_ (fun hHeld => ?_)
      · exact HS.out _ (Below.refl _ _).drew
      refine wpAnyH_take (i := 0) (oi := ⟨some 59, _, _, _, _, _⟩) (v := ?_) rfl (by kernel_rfl) (by kernel_rfl) (by kernel_rfl) (fun _ _ _ h => h) (Or.inl ⟨by rfl, ?_⟩) (by assumption) ?_; rotate_left; focus (intro w hSw; (try dsimp only at hSw); first | (go_simp; done) | (go_simp; with_reducible rfl))
      try simp only [Act.put]
      try simp only [List.setIfInBounds_toArray]
      try simp only [List.set_cons_succ, List.set_cons_zero]
      refine wpAnyH_take (i := 1) (oi := ⟨some 60, _, _, _, _, _⟩) (v := ?_) rfl (by kernel_rfl) (by kernel_rfl) (by kernel_rfl) (fun _ _ _ h => h) (Or.inl ⟨by rfl, ?_⟩) (by assumption) ?_; rotate_left; focus (intro w hSw; (try dsimp only at hSw); obtain ⟨q4, r4, ⟨a0, a1, a2, a3, a4, a5⟩, b0, b1, b2, b3, b4, b5⟩ := hSw; first | (go_simp; done) | (go_simp; with_reducible rfl))
      try simp only [Act.put]
      try simp only [List.setIfInBounds_toArray]
      try simp only [List.set_cons_succ, List.set_cons_zero]
      refine wpAnyH_take (i := 2) (oi := ⟨some 61, _, _, _, _, _⟩) (v := ?_) rfl (by kernel_rfl) (by kernel_rfl) (by kernel_rfl) (fun _ _ _ h => h) (Or.inl ⟨by rfl, ?_⟩) (by assumption) ?_; rotate_left; focus (intro w hSw; (try dsimp only at hSw); first | (go_simp; done) | (go_simp; with_reducible rfl))
      try simp only [Act.put]
      try simp only [List.setIfInBounds_toArray]
      try simp only [List.set_cons_succ, List.set_cons_zero]
      refine wpAnyH_take (i := 3) (oi := ⟨some 62, _, _, _, _, _⟩) (v := ?_) rfl (by kernel_rfl) (by kernel_rfl) (by kernel_rfl) (fun _ _ _ h => h) (Or.inl ⟨by rfl, ?_⟩) (by assumption) ?_; rotate_left; focus (intro w hSw; (try dsimp only at hSw); first | (go_simp; done) | (go_simp; with_reducible rfl))
      try simp only [Act.put]
      try simp only [List.setIfInBounds_toArray]
      try simp only [List.set_cons_succ, List.set_cons_zero]
      refine wpAnyH_take (i := 4) (oi := ⟨some 63, _, _, _, _, _⟩) (v := ?_) rfl (by kernel_rfl) (by kernel_rfl) (by kernel_rfl) (fun _ _ _ h => h) (Or.inl ⟨by rfl, ?_⟩) (by assumption) ?_; rotate_left; focus (intro w hSw; (try dsimp only at hSw); obtain ⟨q4, r4, ⟨a0, a1, a2, a3, a4, a5⟩, b0, b1, b2, b3, b4, b5⟩ := hSw; first | (go_simp; done) | (go_simp; with_reducible rfl))
      try simp only [Act.put]
      try simp only [List.setIfInBounds_toArray]
      try simp only [List.set_cons_succ, List.set_cons_zero]
      refine wpAnyH_take (i := 5) (oi := ⟨some 64, _, _, _, _, _⟩) (v := ?_) rfl (by kernel_rfl) (by kernel_rfl) (by kernel_rfl) (fun _ _ _ h => h) (Or.inl ⟨by rfl, ?_⟩) (by assumption) ?_; rotate_left; focus (intro w hSw; (try dsimp only at hSw); first | (go_simp; done) | (go_simp; with_reducible rfl))
      try simp only [Act.put]
      try simp only [List.setIfInBounds_toArray]
      try simp only [List.set_cons_succ, List.set_cons_zero]
      refine wpAnyH_take (i := 6) (oi := ⟨some 65, _, _, _, _, _⟩) (v := ?_) rfl (by kernel_rfl) (by kernel_rfl) (by kernel_rfl) (fun _ _ _ h => h) (Or.inl ⟨by rfl, ?_⟩) (by assumption) ?_; rotate_left; focus (intro w hSw; (try dsimp only at hSw); obtain ⟨q4, r4, ⟨a0, a1, a2, a3, a4, a5⟩, b0, b1, b2, b3, b4, b5⟩ := hSw; first | (go_simp; done) | (go_simp; with_reducible rfl))
      try simp only [Act.put]
      try simp only [List.setIfInBounds_toArray]
      try simp only [List.set_cons_succ, List.set_cons_zero]
      refine wpAnyH_take (i := 7) (oi := ⟨some 66, _, _, _, _, _⟩) (v := ?_) rfl (by kernel_rfl) (by kernel_rfl) (by kernel_rfl) (fun _ _ _ h => h) (Or.inl ⟨by rfl, ?_⟩) (by assumption) ?_; rotate_left; focus (intro w hSw; (try dsimp only at hSw); first | (go_simp; done) | (go_simp; with_reducible rfl))
      try simp only [Act.put]
      try simp only [List.setIfInBounds_toArray]
      try simp only [List.set_cons_succ, List.set_cons_zero]
      refine wpAnyH_take (i := 8) (oi := ⟨some 67, _, _, _, _, _⟩) (v := ?_) rfl (by kernel_rfl) (by kernel_rfl) (by kernel_rfl) (fun _ _ _ h => h) (Or.inl ⟨by rfl, ?_⟩) (by assumption) ?_; rotate_left; focus (intro w hSw; (try dsimp only at hSw); first | (go_simp; done) | (go_simp; with_reducible rfl))
      try simp only [Act.put]
      try simp only [List.setIfInBounds_toArray]
      try simp only [List.set_cons_succ, List.set_cons_zero]
      refine wpAnyH_take (i := 9) (oi := ⟨some 68, _, _, _, _, _⟩) (v := ?_) rfl (by kernel_rfl) (by kernel_rfl) (by kernel_rfl) (fun _ _ _ h => h) (Or.inl ⟨by rfl, ?_⟩) (by assumption) ?_; rotate_left; focus (intro w hSw; (try dsimp only at hSw); obtain ⟨q4, r4, ⟨a0, a1, a2, a3, a4, a5⟩, b0, b1, b2, b3, b4, b5⟩ := hSw; first | (go_simp; done) | (go_simp; with_reducible rfl))
      try simp only [Act.put]
      try simp only [List.setIfInBounds_toArray]
      try simp only [List.set_cons_succ, List.set_cons_zero]
      refine wpAnyH_ready (rs := [10]) (by kernel_rfl) (by simp) ?_
      refine AllReadyH.cons (i := 10) (o := ⟨some 69, _, _, _, _, _⟩) rfl (fun K hK => ?_) ?_
      · go_simp
        refine (HCX.out _ (Below.refl _ _).drew).mono ?_
        rintro r W2 ⟨v, rfl, hb2, bq, rfl, hbo⟩
        have HB2 : Hid (Below wr.heap.size wr W2) := Lib.hid ((Below.refl _ _).drew.trans hb2)
        have HQ2 := Lib.hid (hq.out.1.trans (HB2.out.mono hq.out.1.size))
        have HBO := Lib.hid hbo
        clear hb2 hbo
        refine hK.out _ _ ?_ (fun hHeld => ?_)
        · exact HS.out _ HB2.out
        try simp only [Act.put]
        try simp only [List.setIfInBounds_toArray]
        try simp only [List.set_cons_succ, List.set_cons_zero]
        refine wpAnyH_take (i := 11) (oi := ⟨some 7, _, _, _, _, _⟩) (v := ?_) rfl (by kernel_rfl) (by kernel_rfl) (by kernel_rfl) (fun _ _ _ h => h) (Or.inl ⟨by rfl, ?_⟩) (by assumption) ?_; rotate_left; focus (intro w hSw; (try dsimp only at hSw); first | (go_simp; done) | (go_simp; with_reducible rfl))
        try simp only [Act.put]
        try simp only [List.setIfInBounds_toArray]
        try simp only [List.set_cons_succ, List.set_cons_zero]
        refine wpAnyH_done (by kernel_rfl) ?_ _
        clear hHeld
        cases bq with
        | true =>
          have Hxy : Hid (x.v = y.v) := Lib.hid (HBO.out.1 rfl)
          go_wp2
          go_roundw
          case rel =>
            refine ⟨k + 1, by omega, by go_num, Lib.hid ⟨HQ2.out, fun j hj => ?_⟩⟩
            rcases Nat.lt_or_ge j k with h | h
            · exact hq.out.2 j h
            · obtain rfl : j = k := by omega
              rw [List.getElem?_map, List.getElem?_map, Hx.out, Hy.out, Option.map_some, Option.map_some, Hxy.out]
          case measure => simp [intOf]; omega
        | false =>
          have Hxy : Hid (x.v ≠ y.v) := Lib.hid (fun h => by have := HBO.out.2 h; cases this)
          go_wp2
          go_ret
          exact ⟨_, rfl, S1.out.below.trans (HQ2.out.mono S1.out.below.size), isB_false fun h => Hxy.out (by
            have h2 := congrArg (fun z => z[k]?) (HP.out.1 h)
            simp only [List.getElem?_map, Hx.out, Hy.out, Option.map_some] at h2
            exact Option.some.inj h2)⟩
      exact AllReadyH.nil
    · obtain rfl : k = nl := by omega
      have HF : Hid P := Lib.hid (HP.out.2 (List.ext_getElem? fun i => by rcases Nat.lt_or_ge i k with h | h; exact hq.out.2 i h; rw [List.getElem?_eq_none (by rw [List.length_map]; have := HNL.out; omega), List.getElem?_eq_none (by rw [List.length_map]; have := HN2.out; omega)]))
      go_wp2
      go_ret
      exact ⟨_, rfl, S1.out.below.trans (hq.out.1.mono S1.out.below.size), isB_true HF.out⟩
theorem sameR_any : ∀ (d e : VD) (w : World), ValAt w (fun _ => True) d → ValAt w (fun _ => True) e → sizeV d.v ≤ 1048576 → Calls Tryz.prog 14 #[d.val, e.val] w (Ret w (IsB (d.v = e.v))) := by
  intro d
  induction d using VD.ind with
  | h s o n t a c l ka kc ks ih =>
    intro e w hd he hs
    refine sameR_walk _ e w hd he hs fun W j x y hb hx hy => ?_
    have hxm : x ∈ l := List.mem_of_getElem? hx
    have hsz := (size_parts (by rw [VD.v_eq] at hs; exact hs)).2.2.2.2
    exact ih x hxm y W ((hd.kid x hxm).ext hb) ((he.kid y (List.mem_of_getElem? hy)).ext hb) (hsz x.v (List.mem_map_of_mem hxm))

structure GBR (w W : World) (e : VD) : Prop where
  val : Blk W w.heap.size #[.int .i64 e.sort, .bool e.on, .int .i64 e.n, .string ⟨e.text.toArray⟩, .slice e.a e.list.length e.c, .slice e.ka e.keys.length e.kc] 26
  res : Blk W (w.heap.size + 1) #[.int .i64 0, .bool false, .int .i64 0, .string { data := #[] }, .slice none 0 0, .slice none 0 0] 26
  below : Below w.heap.size w W
theorem GBR.ext {w W W' : World} {e : VD} (h : GBR w W e) (hb : Below W.heap.size W W') : GBR w W' e := ⟨h.val.ext hb, h.res.ext hb, h.below.trans (hb.mono h.below.size)⟩
/-- where a name was found so far -/
def Fnd (ks : List Nm) (x : Nm) (q : Nat) (at' : Int) : Prop := (at' = -1 ∧ ∀ j, j < q → ks[j]? ≠ some x) ∨ (∃ j : Nat, j < q ∧ at' = (j : Int) ∧ ks[j]? = some x ∧ ∀ i, i < j → ks[i]? ≠ some x)
theorem Fnd.zero (ks : List Nm) (x : Nm) : Fnd ks x 0 (-1) := .inl ⟨rfl, fun _ h => by omega⟩
theorem Fnd.skip {ks : List Nm} {x : Nm} {q : Nat} {a : Int} (h : Fnd ks x q a) (hn : ks[q]? ≠ some x) : Fnd ks x (q + 1) a := by
  rcases h with ⟨h1, h2⟩ | ⟨j, h1, h2⟩
  · exact .inl ⟨h1, fun j hj => by rcases Nat.lt_or_ge j q with h | h; exact h2 j h; obtain rfl : j = q := by omega
                                   exact hn⟩
  · exact .inr ⟨j, by omega, h2⟩
theorem Fnd.keep {ks : List Nm} {x : Nm} {q : Nat} {a : Int} (h : Fnd ks x q a) (hn : ¬ a < 0) : Fnd ks x (q + 1) a := by
  rcases h with ⟨h1, h2⟩ | ⟨j, h1, h2⟩
  · omega
  · exact .inr ⟨j, by omega, h2⟩
theorem Fnd.hit {ks : List Nm} {x : Nm} {q : Nat} {a : Int} (h : Fnd ks x q a) (hn : ks[q]? = some x) (ha : a < 0) : Fnd ks x (q + 1) (q : Int) := by
  rcases h with ⟨h1, h2⟩ | ⟨j, h1, h2, h3⟩
  · exact .inr ⟨q, by omega, rfl, hn, h2⟩
  · omega
theorem stepV_eq (e : VD) (x : Nm) : stepV e.v x = if e.sort = 5 then (indexK x e.keys).bind fun i => (e.list.map VD.v)[i]? else none := by unfold stepV; rw [VD.v_eq]; rfl
theorem Fnd.none {e : VD} {x : Nm} {q : Nat} {a : Int} (h : Fnd e.keys x q a) (ha : a < 0) (hq : e.sort ≠ 5 ∨ e.keys.length ≤ q ∨ e.list.length ≤ q) : stepV e.v x = none := by
  rw [stepV_eq]
  by_cases h5 : e.sort = 5
  · rw [if_pos h5]
    rcases h with ⟨-, h2⟩ | ⟨j, -, h2, -⟩
    · cases hi : indexK x e.keys with
      | none => rfl
      | some i =>
        obtain ⟨h3, -⟩ := indexK_some hi
        have h4 := get_lt h3
        rw [Option.bind_some]
        rcases hq with hq | hq | hq
        · exact absurd h5 hq
        · exact absurd h3 (h2 i (by omega))
        · rw [List.getElem?_eq_none]
          rw [List.length_map]
          rcases Nat.lt_or_ge i q with h | h
          · exact absurd h3 (h2 i h)
          · omega
    · omega
  · rw [if_neg h5]
theorem Fnd.some {e : VD} {x : Nm} {q : Nat} {a : Int} (h : Fnd e.keys x q a) (ha : ¬ a < 0) (h5 : e.sort = 5) (hq : q ≤ e.list.length) : ∃ (j : Nat) (y : VD), a = (j : Int) ∧ e.list[j]? = some y ∧ stepV e.v x = some y.v := by
  rw [stepV_eq, if_pos h5]
  rcases h with ⟨h1, h2⟩ | ⟨j, h1, h2, h3, h4⟩
  · omega
  · rw [indexK_first h3 h4, Option.bind_some]
    obtain ⟨y, hy⟩ := get_some (l := e.list) (i := j) (by omega)
    exact ⟨j, y, h2, hy, by rw [List.getElem?_map, hy]; rfl⟩
theorem store6T {w : World} {g : Nat} {v0 v1 v2 v3 v4 v5 u0 u1 u2 u3 u4 u5 : Value} {T : TypeId} (h : Blk w g #[v0, v1, v2, v3, v4, v5] T) : Blk (put6 w g 0 u0 u1 u2 u3 u4 u5) g #[u0, u1, u2, u3, u4, u5] T := by
  simpa [put6] using store6 (u0 := u0) (u1 := u1) (u2 := u2) (u3 := u3) (u4 := u4) (u5 := u5) h
theorem getEW {w : World} {a b : Option V} (h : a = b) : GetE w a = GetE w b := by rw [h]
theorem getR_end {W : World} {tm : Array Value} {R : Ending → World → Prop} {g : Nat} {u0 u1 u2 u3 u4 u5 : Value} {k : Bool} (h2 : tm.getD 4 undef = .pointer (some ⟨g, 0, none⟩)) (h3 : tm.getD 5 undef = .bool k) (hB : Blk W g #[u0, u1, u2, u3, u4, u5] 26)
    (hR : R (.returned (.tuple #[.agg #[u0, u1, u2, u3, u4, u5], .bool k])) W) : bodyPost Tryz.prog Tryz.f13 R .ret { tmps := tm, defers := [] } W := by
  have d0 := hB.cell 0
  have d1 := hB.cell 1
  have d2 := hB.cell 2
  have d3 := hB.cell 3
  have d4 := hB.cell 4
  have d5 := hB.cell 5
  simp only [List.getElem?_toArray, List.getElem?_cons_zero, List.getElem?_cons_succ] at d0 d1 d2 d3 d4 d5
  rw [Array.getD_eq_getD_getElem?] at h2 h3
  refine bodyPost_ret (v := .tuple #[.agg #[u0, u1, u2, u3, u4, u5], .bool k]) ?_ rfl hR
  simp [results, Tryz.results13, go_sem, h2, h3, d0, d1, d2, d3, d4, d5]

set_option maxHeartbeats 8000000 in
theorem getR_any (d : VD) (pa : Option Addr) (pc : Nat) (p : List Nm) (w : World) (hv : ValAt w (fun _ => True) d) (hp : Row w 1 pa p.length (p.map strV)) (hl : p.length ≤ 1048576) (hs : sizeV d.v ≤ 1048576) :
    Calls Tryz.prog 13 #[d.val, .slice pa p.length pc] w (GetE w (getV d.v p)) := by
  obtain ⟨W0, hW0⟩ : ∃ W0, W0 = (w.alloc (.cells #[.int .i64 d.sort, .bool d.on, .int .i64 d.n, .string ⟨d.text.toArray⟩, .slice d.a d.list.length d.c, .slice d.ka d.keys.length d.kc] 26)).alloc (.cells #[.int .i64 0, .bool false, .int .i64 0, .string { data := #[] }, .slice none 0 0, .slice none 0 0] 26) := ⟨_, rfl⟩
  have G0 : Hid (GBR w W0 d) := Lib.hid (by rw [hW0]; exact ⟨(Blk.new rfl).alloc _, Blk.new (by simp), (below_a1 w _).alloc (by simp) _⟩)
  have HV := Lib.hid hv
  have HP := Lib.hid hp
  have HS := Lib.hid hs
  rw [VD.val6]
  obtain ⟨res, hres⟩ : ∃ r, r = getV d.v p := ⟨_, rfl⟩
  rw [← hres]
  have HRES := Lib.hid hres
  clear hv hp hs hres
  go_enter Tryz.func13, Tryz.ntmps13
  go_upto_region 1 with (fail)
  rw [← hW0]
  clear hW0
  go_wp2_with fail
  go_loopw [6, 7, 8] (fun i _ _ wr => ∃ (k : Nat) (e : VD), k ≤ p.length ∧ i = .int .i64 k ∧ Hid (GBR w wr e) ∧ Hid (ValAt w (fun _ => True) e ∧ sizeV e.v ≤ 1048576) ∧ Hid (res = getV e.v (p.drop k))) (fun i _ _ _ => p.length - (intOf i).toNat)
  case atStart => exact ⟨0, d, Nat.zero_le _, rfl, G0, Lib.hid ⟨HV.out, HS.out⟩, HRES⟩
  case round =>
    obtain ⟨k, e, hk, rfl, hg, hve, hr⟩ := hrel
    by_cases hlt : k < p.length
    · obtain ⟨x, hx⟩ := get_some hlt
      have hgs := getV_step e.v p hx
      have Hgs := Lib.hid hgs
      have HX := Lib.hid hx
      have hkl : (k : Int) < p.length := by omega
      have hsz : sizeV (.mk e.sort e.on e.n e.text (e.list.map VD.v) e.keys) ≤ 1048576 := by rw [← VD.v_eq]; exact hve.out.2
      obtain ⟨-, s2, s3, -, s5⟩ := size_parts hsz
      rw [List.length_map] at s3
      have S5 := Lib.hid s5
      clear hx hgs s5 hsz
      go_wp2_with fail
      go_loopw [7, 8] (fun t i wr' => ∃ (q : Nat) (a : Int), q ≤ e.list.length ∧ q ≤ e.keys.length ∧ i = .int .i64 q ∧ t = .int .i64 a ∧ (-1 ≤ a ∧ a ≤ 1048576) ∧ Hid (q = 0 ∨ e.sort = 5) ∧ Hid (Fnd e.keys x q a) ∧ Hid (Below wr.heap.size wr wr')) (fun _ i _ => e.keys.length - (intOf i).toNat)
      case atStart => exact ⟨0, -1, Nat.zero_le _, Nat.zero_le _, rfl, rfl, by omega, Lib.hid (.inl rfl), Lib.hid (Fnd.zero _ _), Lib.hid (Below.refl _ _)⟩
      case round =>
        obtain ⟨q, a, hql, hqk, rfl, rfl, ha, HQ5, HFN, hb⟩ := hrel
        have G2 := Lib.hid (hg.out.ext hb.out)
        obtain ⟨c0, c1, c2, c3, c4, c5⟩ := G2.out.val.sixT
        obtain ⟨ha1, ha2⟩ := ha
        by_cases hk1 : q < e.keys.length
        · by_cases hl1 : q < e.list.length
          · by_cases h5 : e.sort = 5
            · have h5' : (e.sort == 5) = true := by simpa using h5
              obtain ⟨y, hy⟩ := get_some hk1
              have HY := Lib.hid hy
              have hyv := (hve.out.1.ext G2.out.below).krow.elem1 hy
              obtain ⟨kb, koff, hka, y0⟩ := hyv
              unfold strV at y0
              have hpv := (HP.out.ext G2.out.below).elem1 HX.out
              obtain ⟨pb, po, hpa, x0⟩ := hpv
              unfold strV at x0
              subst hpa
              rw [hka] at c5
              have H5 := Lib.hid h5
              clear hy hka h5
              have hk1' : (q : Int) < e.keys.length := by omega
              have hl1' : (q : Int) < e.list.length := by omega
              by_cases hxy : y = x
              · have hxy' : (y == x) = true := by simpa using hxy
                have HXY : Hid (e.keys[q]? = some x) := Lib.hid (by rw [HY.out, hxy])
                clear hxy
                by_cases ha0 : a < 0
                · have HA0 := Lib.hid ha0
                  go_wp2_with fail
                  go_quiet (fail)
                  go_wp2
                  go_roundw
                  case rel => exact ⟨q + 1, (q : Int), by omega, by omega, by go_num, rfl, by omega, Lib.hid (.inr H5.out), Lib.hid (HFN.out.hit HXY.out (by have := HA0.out; omega)), Lib.hid (below_drew hb.out _)⟩
                  case measure => simp [intOf]; omega
                · have HA0 := Lib.hid ha0
                  go_wp2_with fail
                  go_quiet (fail)
                  go_wp2
                  go_roundw
                  case rel => exact ⟨q + 1, a, by omega, by omega, by go_num, rfl, by omega, Lib.hid (.inr H5.out), Lib.hid (HFN.out.keep (by have := HA0.out; omega)), Lib.hid (below_drew hb.out _)⟩
                  case measure => simp [intOf]; omega
              · have hxy' : (y == x) = false := by simpa using hxy
                have HXY : Hid (e.keys[q]? ≠ some x) := Lib.hid (by rw [HY.out]; intro h; exact hxy (Option.some.inj h))
                clear hxy
                go_wp2_with fail
                go_quiet (fail)
                go_wp2
                go_roundw
                case rel => exact ⟨q + 1, a, by omega, by omega, by go_num, rfl, by omega, Lib.hid (.inr H5.out), Lib.hid (HFN.out.skip HXY.out), Lib.hid (below_drew hb.out _)⟩
                case measure => simp [intOf]; omega
            · have h5' : (e.sort == 5) = false := by simpa using h5
              have HNONE : Hid (∀ h : a < 0, stepV e.v x = none) := Lib.hid fun h => HFN.out.none h (.inl h5)
              have hq0 : q = 0 := by rcases HQ5.out with h | h; exact h; exact absurd h h5
              have ha0 : a < 0 := by
                rcases HFN.out with ⟨h, -⟩ | ⟨j, h, -⟩
                · omega
                · omega
              have hk1' : (q : Int) < e.keys.length := by omega
              have hl1' : (q : Int) < e.list.length := by omega
              have HQ0 := Lib.hid hq0
              clear hq0 h5
              have f0 := G2.out.val.free 0
              have f1 := G2.out.val.free 1
              have f2 := G2.out.val.free 2
              have f3 := G2.out.val.free 3
              have f4 := G2.out.val.free 4
              have f5 := G2.out.val.free 5
              obtain ⟨q0, q1, q2, q3, q4, q5⟩ := G2.out.res.sixT
              have g0 := G2.out.res.free 0
              have g1 := G2.out.res.free 1
              have g2 := G2.out.res.free 2
              have g3 := G2.out.res.free 3
              have g4 := G2.out.res.free 4
              have g5 := G2.out.res.free 5
              have Hno : Hid (res = none) := Lib.hid (by rw [hr.out, Hgs.out, HNONE.out ha0])
              go_wp2
              refine getR_end (g := w.heap.size + 1) rfl rfl (store6 G2.out.res) ?_
              exact getE_none Hno.out (put6_below (o := 0) G2.out.below (by omega))
          · have hl1' : ¬ ((q : Int) < e.list.length) := by omega
            have hk1' : (q : Int) < e.keys.length := by omega
            by_cases ha0 : a < 0
            · have HNONE : Hid (∀ h : a < 0, stepV e.v x = none) := Lib.hid fun h => HFN.out.none h (.inr (.inr (by omega)))
              have f0 := G2.out.val.free 0
              have f1 := G2.out.val.free 1
              have f2 := G2.out.val.free 2
              have f3 := G2.out.val.free 3
              have f4 := G2.out.val.free 4
              have f5 := G2.out.val.free 5
              obtain ⟨q0, q1, q2, q3, q4, q5⟩ := G2.out.res.sixT
              have g0 := G2.out.res.free 0
              have g1 := G2.out.res.free 1
              have g2 := G2.out.res.free 2
              have g3 := G2.out.res.free 3
              have g4 := G2.out.res.free 4
              have g5 := G2.out.res.free 5
              have Hno : Hid (res = none) := Lib.hid (by rw [hr.out, Hgs.out, HNONE.out ha0])
              go_wp2
              refine getR_end (g := w.heap.size + 1) rfl rfl (store6 G2.out.res) ?_
              exact getE_none Hno.out (put6_below (o := 0) G2.out.below (by omega))
            · have h5 : e.sort = 5 := by
                rcases HQ5.out with h | h
                · rcases HFN.out with ⟨h2, -⟩ | ⟨j, h2, -⟩ <;> omega
                · exact h
              obtain ⟨j, y, rfl, hy, hsv⟩ := HFN.out.some ha0 h5 hql
              have hjl : j < e.list.length := (List.getElem?_eq_some_iff.1 hy).1
              have hji : (j : Int) < e.list.length := by omega
              have hj0 : ¬ ((j : Int) < 0) := by omega
              obtain ⟨b, off, hea, v0, v1, v2, v3, v4, v5⟩ := val_at (hve.out.1.ext G2.out.below).row hy
              unfold strV at v3
              rw [hea] at c4
              have hym : y ∈ e.list := List.mem_of_getElem? hy
              have Hy : Hid (ValAt w (fun _ => True) y ∧ sizeV y.v ≤ 1048576) := Lib.hid ⟨hve.out.1.kid y hym, S5.out _ (List.mem_map_of_mem hym)⟩
              have Hr : Hid (res = getV y.v (p.drop (k + 1))) := Lib.hid (by rw [hr.out, Hgs.out, hsv])
              have H5 := Lib.hid h5
              clear hy hsv h5 hea hym
              have f0 := G2.out.val.free 0
              have f1 := G2.out.val.free 1
              have f2 := G2.out.val.free 2
              have f3 := G2.out.val.free 3
              have f4 := G2.out.val.free 4
              have f5 := G2.out.val.free 5
              obtain ⟨q0, q1, q2, q3, q4, q5⟩ := G2.out.res.sixT
              have g0 := G2.out.res.free 0
              have g1 := G2.out.res.free 1
              have g2 := G2.out.res.free 2
              have g3 := G2.out.res.free 3
              have g4 := G2.out.res.free 4
              have g5 := G2.out.res.free 5
              go_upto_region 3 with (fail)
              have hg3 : GBR w (put6 wr w.heap.size 0 (.int .i64 y.sort) (.bool y.on) (.int .i64 y.n) (.string ⟨y.text.toArray⟩) (.slice y.a y.list.length y.c) (.slice y.ka y.keys.length y.kc)) y :=
                ⟨store6T G2.out.val, G2.out.res.other6 (by omega), put6_below (o := 0) G2.out.below (Nat.le_refl _)⟩
              obtain ⟨W3, hW3⟩ : ∃ W3, W3 = put6 wr w.heap.size 0 (.int .i64 y.sort) (.bool y.on) (.int .i64 y.n) (.string ⟨y.text.toArray⟩) (.slice y.a y.list.length y.c) (.slice y.ka y.keys.length y.kc) := ⟨_, rfl⟩
              rw [← hW3] at hg3
              have G3 := Lib.hid hg3
              unfold put6 at hW3
              simp only [Nat.zero_add] at hW3
              rw [← hW3]
              clear hg3 hW3 c0 c1 c2 c3 c4 c5 f0 f1 f2 f3 f4 f5 q0 q1 q2 q3 q4 q5 g0 g1 g2 g3 g4 g5 v0 v1 v2 v3 v4 v5
              go_wp2
              go_roundw
              case rel => exact ⟨k + 1, y, by omega, by go_num, G3, Hy, Hr⟩
              case measure => simp [intOf]; omega
        · have hk1' : ¬ ((q : Int) < e.keys.length) := by omega
          by_cases ha0 : a < 0
          · have HNONE : Hid (∀ h : a < 0, stepV e.v x = none) := Lib.hid fun h => HFN.out.none h (.inr (.inl (by omega)))
            have f0 := G2.out.val.free 0
            have f1 := G2.out.val.free 1
            have f2 := G2.out.val.free 2
            have f3 := G2.out.val.free 3
            have f4 := G2.out.val.free 4
            have f5 := G2.out.val.free 5
            obtain ⟨q0, q1, q2, q3, q4, q5⟩ := G2.out.res.sixT
            have g0 := G2.out.res.free 0
            have g1 := G2.out.res.free 1
            have g2 := G2.out.res.free 2
            have g3 := G2.out.res.free 3
            have g4 := G2.out.res.free 4
            have g5 := G2.out.res.free 5
            have Hno : Hid (res = none) := Lib.hid (by rw [hr.out, Hgs.out, HNONE.out ha0])
            go_wp2
            refine getR_end (g := w.heap.size + 1) rfl rfl (store6 G2.out.res) ?_
            exact getE_none Hno.out (put6_below (o := 0) G2.out.below (by omega))
          · have h5 : e.sort = 5 := by
              rcases HQ5.out with h | h
              · rcases HFN.out with ⟨h2, -⟩ | ⟨j, h2, -⟩ <;> omega
              · exact h
            obtain ⟨j, y, rfl, hy, hsv⟩ := HFN.out.some ha0 h5 hql
            have hjl : j < e.list.length := (List.getElem?_eq_some_iff.1 hy).1
            have hji : (j : Int) < e.list.length := by omega
            have hj0 : ¬ ((j : Int) < 0) := by omega
            obtain ⟨b, off, hea, v0, v1, v2, v3, v4, v5⟩ := val_at (hve.out.1.ext G2.out.below).row hy
            unfold strV at v3
            rw [hea] at c4
            have hym : y ∈ e.list := List.mem_of_getElem? hy
            have Hy : Hid (ValAt w (fun _ => True) y ∧ sizeV y.v ≤ 1048576) := Lib.hid ⟨hve.out.1.kid y hym, S5.out _ (List.mem_map_of_mem hym)⟩
            have Hr : Hid (res = getV y.v (p.drop (k + 1))) := Lib.hid (by rw [hr.out, Hgs.out, hsv])
            have H5 := Lib.hid h5
            clear hy hsv h5 hea hym
            have f0 := G2.out.val.free 0
            have f1 := G2.out.val.free 1
            have f2 := G2.out.val.free 2
            have f3 := G2.out.val.free 3
            have f4 := G2.out.val.free 4
            have f5 := G2.out.val.free 5
            obtain ⟨q0, q1, q2, q3, q4, q5⟩ := G2.out.res.sixT
            have g0 := G2.out.res.free 0
            have g1 := G2.out.res.free 1
            have g2 := G2.out.res.free 2
            have g3 := G2.out.res.free 3
            have g4 := G2.out.res.free 4
            have g5 := G2.out.res.free 5
            go_upto_region 3 with (fail)
            have hg3 : GBR w (put6 wr w.heap.size 0 (.int .i64 y.sort) (.bool y.on) (.int .i64 y.n) (.string ⟨y.text.toArray⟩) (.slice y.a y.list.length y.c) (.slice y.ka y.keys.length y.kc)) y :=
              ⟨store6T G2.out.val, G2.out.res.other6 (by omega), put6_below (o := 0) G2.out.below (Nat.le_refl _)⟩
            obtain ⟨W3, hW3⟩ : ∃ W3, W3 = put6 wr w.heap.size 0 (.int .i64 y.sort) (.bool y.on) (.int .i64 y.n) (.string ⟨y.text.toArray⟩) (.slice y.a y.list.length y.c) (.slice y.ka y.keys.length y.kc) := ⟨_, rfl⟩
            rw [← hW3] at hg3
            have G3 := Lib.hid hg3
            unfold put6 at hW3
            simp only [Nat.zero_add] at hW3
            rw [← hW3]
            clear hg3 hW3 c0 c1 c2 c3 c4 c5 f0 f1 f2 f3 f4 f5 q0 q1 q2 q3 q4 q5 g0 g1 g2 g3 g4 g5 v0 v1 v2 v3 v4 v5
            go_wp2
            go_roundw
            case rel => exact ⟨k + 1, y, by omega, by go_num, G3, Hy, Hr⟩
            case measure => simp [intOf]; omega
    · obtain rfl : k = p.length := by omega
      have G2 := hg
      obtain ⟨c0, c1, c2, c3, c4, c5⟩ := G2.out.val.sixT
      have f0 := G2.out.val.free 0
      have f1 := G2.out.val.free 1
      have f2 := G2.out.val.free 2
      have f3 := G2.out.val.free 3
      have f4 := G2.out.val.free 4
      have f5 := G2.out.val.free 5
      obtain ⟨q0, q1, q2, q3, q4, q5⟩ := G2.out.res.sixT
      have g0 := G2.out.res.free 0
      have g1 := G2.out.res.free 1
      have g2 := G2.out.res.free 2
      have g3 := G2.out.res.free 3
      have g4 := G2.out.res.free 4
      have g5 := G2.out.res.free 5
      have Hs : Hid (res = some e.v) := Lib.hid (by rw [hr.out, List.drop_length]; rfl)
      go_wp2
      refine getR_end (g := w.heap.size + 1) rfl rfl (store6 G2.out.res) ?_
      refine ⟨put6_below (o := 0) G2.out.below (by omega), ?_⟩
      rw [Hs.out]
      exact ⟨e, by rw [VD.val6], rfl, hve.out.1⟩
end Go.Proofs.YtahiopjplfnlmaaGreatDoor
