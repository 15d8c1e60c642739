/- What is right, of a value's list: walked. What is right: walked. Whether two values are one: walked. A text between quotes: walked. A value's text: walked. A list's text, and a record's: walked. Write: walked. A part of a Record: walked. The live question: walked. How large a value is: walked. A value that is copied into the other type: what is held. What a value that comes in holds, read off its reading. Messages, plainly: what a call's message is, and what a message is read to. Answers, notices and codes, plainly; and the live message. A call in memory. rpc's smallest functions: walked. The document's smallest functions: walked. The kinds' names: walked. The document's answers: walked. The document's notices: walked. A place as a value, the document's: walked. Whether two values are one, the document's: walked. A part of a Record, the document's: walked. Parts that are a Text, or a Number, the document's: walked. A region whose operations come up in whatever order: one law, by what is held between them. rpc.record: walked. -/
import Derived.Test.YthnbeebilomchaaGreatDoorMb3
import Derived.Lib.SlBytesRow
import Derived.ProofKit
import Derived.Deep.Slices
import Derived.Lib.SmallJoins
import Derived.JoinedCond
import Derived.Test.YthnbeebilomchaaGreatDoorMb1
import Derived.Deep.RegionHeld3
import Derived.Deep.RegionHeld
import Derived.Test.YthnbeebilomchaaGreatDoorMb2
namespace Go.Proofs.YthnbeebilomchaaGreatDoor
open Go Go.RowKit

/-- right m is told of any value -/
def RightAt (m : Nat) : Prop := ∀ (d : VD) (w : World), Glob w → ValAt w (fun _ => True) d → sizeV d.v ≤ 1048576 → Calls Tryz.prog 68 #[d.val, .int .i64 (m : Nat)] w (BoE w (right m d.v))
theorem VD.val6 (d : VD) : d.val = .agg #[.int .i64 d.sort, .bool d.on, .int .i64 d.n, .string ⟨d.text.toArray⟩, .slice d.a d.list.length d.c, .slice d.ka d.keys.length d.kc] := VD.val_eq' d
theorem BoE.from {w w' : World} {b : Bool} {e : Ending} {W : World} (h : BoE w' b e W) (hb : Below w.heap.size w w') : BoE w b e W := ⟨h.1, hb.trans (h.2.mono hb.size)⟩
set_option maxHeartbeats 1000000 in
theorem right1_any (m : Nat) (IH : Hid (RightAt m)) (d : VD) (w : World) (g : Nat) (n : Int) (hg : Blk w g #[.int .i64 n] 3) (hn : n = (m : Int) + 1) (hm : m ≤ 20) (hG : Glob w) (hv : ValAt w (fun _ => True) d) (hs : sizeV d.v ≤ 1048576) :
    Calls Tryz.prog 87 #[d.val, .pointer (some ⟨g, 0, none⟩)] w (BoE w (!(right m d.v))) := by
  obtain ⟨W, hW⟩ : ∃ W, W = w.alloc (.cells #[.int .i64 d.sort, .bool d.on, .int .i64 d.n, .string ⟨d.text.toArray⟩, .slice d.a d.list.length d.c, .slice d.ka d.keys.length d.kc] 36) := ⟨_, rfl⟩
  have hb : Below w.heap.size w W := by rw [hW]; exact below_a1 _ _
  have hc := IH.out d W (hG.ext hb) (hv.ext hb) hs
  have HC := Lib.hid hc
  have HB := Lib.hid hb
  have g0 := (hg.ext hb).cell 0
  rw [hW] at g0
  simp only [List.getElem?_toArray, List.getElem?_cons_zero] at g0
  have hn1 : 1 ≤ n := by omega
  have hn2 : n ≤ 21 := by omega
  have hn3 : n - 1 = (m : Int) := by omega
  rw [VD.val6] at HC ⊢
  clear hc hb hv hG
  go_enter Tryz.func87, Tryz.ntmps87
  go_wp2_with fail
  rw [← hW]
  refine HC.out.mono ?_
  rintro e w2 ⟨rfl, hb2⟩
  have HB2 := Lib.hid hb2
  clear hb2
  go_wp2
  go_ret
  exact ⟨rfl, HB.out.trans (HB2.out.mono HB.out.size)⟩
set_option maxHeartbeats 1000000 in
theorem indexfunc_any (a : Option Addr) (c : Nat) (l : List VD) (w : World) (cap : Array Value) (hl : Row w 6 a l.length (l.flatMap VD.cells)) (hn : l.length ≤ 1048576) (p : VD → Bool)
    (hc : ∀ W x, Below w.heap.size w W → x ∈ l → Calls Tryz.prog 87 (#[x.val] ++ cap) W (BoE W (p x))) :
    Calls Tryz.prog 104 #[.slice a l.length c, .func (.func 87) #[] cap] w (fun e w' => (∃ i : Int, e = .returned (.int .i64 i) ∧ (0 ≤ i ↔ ∃ x ∈ l, p x = true)) ∧ Below w.heap.size w w') := by
  have HL := Lib.hid hl
  have HC := Lib.hid hc
  clear hl hc
  go_enter Tryz.func104, Tryz.ntmps104
  go_wp2_with fail
  go_loopw [4, 8] (fun _ i wr => ∃ k : Nat, k ≤ l.length ∧ i = .int .i64 k ∧ Hid (Below w.heap.size w wr ∧ ∀ x ∈ l.take k, p x = false)) (fun _ i _ => l.length - (intOf i).toNat)
  case atStart => exact ⟨0, Nat.zero_le _, rfl, Lib.hid ⟨Below.refl _ _, by simp⟩⟩
  case round =>
    obtain ⟨k, hk, rfl, hq⟩ := hrel
    by_cases hlt : k < l.length
    · obtain ⟨x, hx⟩ := get_some hlt
      have hv := val_at (HL.out.congr fun g h0 hg hlt => hq.out.1.block g hlt) hx
      obtain ⟨b, off, rfl, v0, v1, v2, v3, v4, v5⟩ := hv
      have Hx := Lib.hid hx
      have hcx := HC.out wr x hq.out.1 (List.mem_of_getElem? hx)
      rw [VD.val6] at hcx
      unfold strV at v3
      clear hx
      go_wp2_with fail
      have HP := Lib.hid hcx
      clear hcx v0 v1 v2 v3 v4 v5
      refine HP.out.mono ?_
      rintro e w2 ⟨rfl, hb2⟩
      have HB2 := Lib.hid (hq.out.1.trans (hb2.mono hq.out.1.size))
      clear hb2 HP
      cases hp : p x with
      | true =>
        have Hp := Lib.hid hp
        clear hp
        go_wp2
        go_ret
        exact ⟨⟨k, rfl, by
          constructor
          · intro _; exact ⟨x, List.mem_of_getElem? Hx.out, Hp.out⟩
          · intro _; omega⟩, HB2.out⟩
      | false =>
        have Hp : Hid (∀ y ∈ l.take (k + 1), p y = false) := Lib.hid fun y hy => by
          rw [take_one Hx.out, List.mem_append, List.mem_singleton] at hy
          rcases hy with hy | rfl
          · exact hq.out.2 y hy
          · exact hp
        clear hp
        go_wp2
        go_roundw
        case rel => exact ⟨k + 1, by omega, by go_num, Lib.hid ⟨HB2.out, Hp.out⟩⟩
        case measure => simp [intOf]; omega
    · obtain rfl : k = l.length := by omega
      go_wp2
      go_ret
      exact ⟨⟨-1, rfl, by
        have h := hq.out.2
        rw [List.take_length] at h
        constructor
        · intro h; omega
        · rintro ⟨x, hx, hp⟩; rw [h x hx] at hp; cases hp⟩, hq.out.1⟩

set_option maxHeartbeats 1000000 in
theorem containsfunc_any (a : Option Addr) (c : Nat) (l : List VD) (w : World) (cap : Array Value) (hl : Row w 6 a l.length (l.flatMap VD.cells)) (hn : l.length ≤ 1048576) (p : VD → Bool)
    (hc : ∀ W x, Below w.heap.size w W → x ∈ l → Calls Tryz.prog 87 (#[x.val] ++ cap) W (BoE W (p x))) :
    Calls Tryz.prog 86 #[.slice a l.length c, .func (.func 87) #[] cap] w (BoE w (l.any p)) := by
  have h1 := indexfunc_any a c l w cap hl hn p hc
  have H1 := Lib.hid h1
  clear h1 hl hc
  go_enter Tryz.func86, Tryz.ntmps86
  go_wp2_with fail
  refine H1.out.mono ?_
  rintro e w2 ⟨⟨i, rfl, hi⟩, hb2⟩
  have HB := Lib.hid hb2
  have HI := Lib.hid hi
  clear hb2 hi
  go_wp2
  go_ret
  refine ⟨?_, HB.out⟩
  have h := HI.out
  rw [show decide (0 ≤ i) = l.any p by rw [Bool.eq_iff_iff, decide_eq_true_eq, h, List.any_eq_true]]
  rfl
end Go.Proofs.YthnbeebilomchaaGreatDoor

namespace Go.Proofs.YthnbeebilomchaaGreatDoor
open Go Go.RowKit

/-- right's two boxes -/
structure RB (w W : World) (d : VD) (m : Int) : Prop where
  val : Blk W w.heap.size #[.int .i64 d.sort, .bool d.on, .int .i64 d.n, .string ⟨d.text.toArray⟩, .slice d.a d.list.length d.c, .slice d.ka d.keys.length d.kc] 36
  most : Blk W (w.heap.size + 1) #[.int .i64 m] 3
  below : Below w.heap.size w W
theorem RB.ext {w W W' : World} {d : VD} {m : Int} (h : RB w W d m) (hb : Below W.heap.size W W') : RB w W' d m := ⟨h.val.ext hb, h.most.ext hb, h.below.trans (hb.mono h.below.size)⟩
theorem RB.made (w : World) (d : VD) (m : Int) : RB w ((w.alloc (.cells #[.int .i64 d.sort, .bool d.on, .int .i64 d.n, .string ⟨d.text.toArray⟩, .slice d.a d.list.length d.c, .slice d.ka d.keys.length d.kc] 36)).alloc (.cells #[.int .i64 m] 3)) d m :=
  ⟨(Blk.new rfl).alloc _, Blk.new (by simp), (below_a1 w _).alloc (by simp) _⟩
theorem headOk_eq (s : Int) (o : Bool) (n : Int) (t : Nm) (m : Nat) (ks : List Nm) : headOk s o n t m ks = (decide (0 ≤ s) && decide (s ≤ 5) && decide (-9007199254740992 ≤ n) && decide (n ≤ 9007199254740992) && Lib.validD t && emptyOk s o n t m ks.length && distinct ks) := by
  unfold headOk emptyOk
  have e : ks.isEmpty = (ks.length == 0) := by cases ks <;> rfl
  rw [e]
  rw [Bool.eq_iff_iff]
  simp only [Bool.and_eq_true]
  constructor
  · rintro ⟨⟨⟨⟨⟨⟨⟨⟨⟨a, b⟩, c⟩, d⟩, e⟩, f⟩, g⟩, h⟩, i⟩, j⟩; exact ⟨⟨⟨⟨⟨⟨d, e⟩, f⟩, g⟩, h⟩, ⟨⟨⟨a, b⟩, c⟩, j⟩⟩, i⟩
  · rintro ⟨⟨⟨⟨⟨⟨d, e⟩, f⟩, g⟩, h⟩, ⟨⟨⟨a, b⟩, c⟩, j⟩⟩, i⟩; exact ⟨⟨⟨⟨⟨⟨⟨⟨⟨a, b⟩, c⟩, d⟩, e⟩, f⟩, g⟩, h⟩, i⟩, j⟩
theorem size_parts {s : Int} {o : Bool} {n : Int} {t : Nm} {l : List V} {ks : List Nm} {N : Nat} (h : sizeV (.mk s o n t l ks) ≤ N) : t.length ≤ N ∧ ks.length ≤ N ∧ l.length ≤ N ∧ (∀ x ∈ ks, x.length ≤ N) ∧ ∀ x ∈ l, sizeV x ≤ N := by
  rw [sizeV] at h
  have h1 := sizesV_len l
  have h2 : ks.length ≤ (ks.map fun k => 1 + k.length).sum := by
    clear h
    induction ks with
    | nil => simp
    | cons k ks ih => simp only [List.map_cons, List.sum_cons, List.length_cons]; omega
  have h3 : ∀ x ∈ ks, x.length ≤ (ks.map fun k => 1 + k.length).sum := by
    clear h h2
    induction ks with
    | nil => simp
    | cons k ks ih =>
      intro x hx
      simp only [List.map_cons, List.sum_cons]
      rcases List.mem_cons.1 hx with rfl | hx
      · omega
      · have := ih x hx; omega
  refine ⟨by omega, by omega, by omega, fun x hx => ?_, fun x hx => ?_⟩
  · have := h3 x hx; omega
  · have := sizesV_mem hx; omega
theorem right_step (m : Nat) (d : VD) : right m d.v = (headOk d.sort d.on d.n d.text d.list.length d.keys && (decide (d.sort < 4) || (decide (0 < m) && !(d.list.any fun x => !(right (m - 1) x.v))))) := by
  rw [VD.v_eq, right, rights_all, List.length_map, List.all_map]
  rw [show (d.list.all ((right (m - 1)) ∘ VD.v)) = !(d.list.any fun x => !(right (m - 1) x.v)) by rw [List.not_any_eq_all_not]; simp [Function.comp_def]]
set_option maxHeartbeats 4000000 in
theorem right_walk (m : Nat) (hm : m ≤ 20) (d : VD) (w : World) (hG : Glob w) (hv : ValAt w (fun _ => True) d) (hs : sizeV d.v ≤ 1048576)
    (IH : 0 < m → Hid (RightAt (m - 1))) : Calls Tryz.prog 68 #[d.val, .int .i64 (m : Nat)] w (BoE w (right m d.v)) := by
  obtain ⟨W0, hW0⟩ : ∃ W0, W0 = (w.alloc (.cells #[.int .i64 d.sort, .bool d.on, .int .i64 d.n, .string ⟨d.text.toArray⟩, .slice d.a d.list.length d.c, .slice d.ka d.keys.length d.kc] 36)).alloc (.cells #[.int .i64 ((m : Nat) : Int)] 3) := ⟨_, rfl⟩
  have R0 : Hid (RB w W0 d m) := Lib.hid (by rw [hW0]; exact RB.made w d m)
  have hst := right_step m d
  rw [headOk_eq] at hst
  have hsz : sizeV (.mk d.sort d.on d.n d.text (d.list.map VD.v) d.keys) ≤ 1048576 := by rw [← VD.v_eq]; exact hs
  obtain ⟨s1, s2, s3, s4, s5⟩ := size_parts hsz
  rw [List.length_map] at s3
  have S4 := Lib.hid s4
  have S5 : Hid (∀ x ∈ d.list, sizeV x.v ≤ 1048576) := Lib.hid fun x hx => s5 _ (List.mem_map_of_mem hx)
  have HG := Lib.hid hG
  have HV := Lib.hid hv
  have HST := Lib.hid hst
  have HI := Lib.hid IH
  rw [VD.val6]
  clear hG hv hst hs hsz s4 s5 IH
  obtain ⟨n, hn⟩ : ∃ n : Int, n = (m : Int) := ⟨_, rfl⟩
  rw [← hn] at R0 hW0 ⊢
  have hn0 : 0 ≤ n := by omega
  have hn2 : n ≤ 20 := by omega
  have HN := Lib.hid hn
  clear hn
  obtain ⟨c0, c1, c2, c3, c4, c5⟩ := (R0.out.val).six
  have m0 := R0.out.most.cell 0
  simp only [List.getElem?_toArray, List.getElem?_cons_zero] at m0
  go_enter Tryz.func68, Tryz.ntmps68
  go_upto_region 1 with (fail)
  rw [← hW0]
  clear hW0
  generalize hq : right m d.v = q at *
  by_cases a1 : d.sort < 0
  · have hf : q = false := by rw [HST.out]; simp only [Bool.and_eq_false_iff, decide_eq_false_iff_not]; left; left; left; left; left; left; left; omega
    have Hf := Lib.hid hf
    clear hf
    go_wp2
    go_ret
    exact ⟨by rw [Hf.out]; rfl, R0.out.below⟩
  by_cases a2 : 5 < d.sort
  · have hf : q = false := by rw [HST.out]; simp only [Bool.and_eq_false_iff, decide_eq_false_iff_not]; left; left; left; left; left; left; right; omega
    have Hf := Lib.hid hf
    clear hf
    go_wp2
    go_ret
    exact ⟨by rw [Hf.out]; rfl, R0.out.below⟩
  by_cases a3 : d.n < -9007199254740992
  · have hf : q = false := by rw [HST.out]; simp only [Bool.and_eq_false_iff, decide_eq_false_iff_not]; left; left; left; left; left; right; omega
    have Hf := Lib.hid hf
    clear hf
    go_wp2
    go_ret
    exact ⟨by rw [Hf.out]; rfl, R0.out.below⟩
  by_cases a4 : 9007199254740992 < d.n
  · have hf : q = false := by rw [HST.out]; simp only [Bool.and_eq_false_iff, decide_eq_false_iff_not]; left; left; left; left; right; omega
    have Hf := Lib.hid hf
    clear hf
    go_wp2
    go_ret
    exact ⟨by rw [Hf.out]; rfl, R0.out.below⟩
  have hh : q = (Lib.validD d.text && emptyOk d.sort d.on d.n d.text d.list.length d.keys.length && distinct d.keys && (decide (d.sort < 4) || (decide (0 < m) && !(d.list.any fun x => !(right (m - 1) x.v))))) := by
    rw [HST.out, decide_eq_true (by omega : 0 ≤ d.sort), decide_eq_true (by omega : d.sort ≤ 5), decide_eq_true (by omega : -9007199254740992 ≤ d.n), decide_eq_true (by omega : d.n ≤ 9007199254740992)]
    rfl
  have HH0 := Lib.hid hh
  clear hh HST
  go_wp2_with fail
  refine (utf_any d.text W0 (HG.out.ext R0.out.below) (by omega)).mono ?_
  rintro e W1 ⟨rfl, hb⟩
  have R1 := Lib.hid (R0.out.ext hb)
  clear c0 c1 c2 c3 c4 c5 m0 hb
  obtain ⟨c0, c1, c2, c3, c4, c5⟩ := (R1.out.val).six
  have m0 := R1.out.most.cell 0
  simp only [List.getElem?_toArray, List.getElem?_cons_zero] at m0
  cases h0 : Lib.validD d.text with
  | false =>
    have hf : q = false := by rw [HH0.out, h0]; simp
    have Hf := Lib.hid hf
    clear hf
    go_wp2
    go_ret
    exact ⟨by rw [Hf.out]; rfl, R1.out.below⟩
  | true =>
  have hh : q = (emptyOk d.sort d.on d.n d.text d.list.length d.keys.length && distinct d.keys && (decide (d.sort < 4) || (decide (0 < m) && !(d.list.any fun x => !(right (m - 1) x.v))))) := by rw [HH0.out, h0]; simp
  have HH1 := Lib.hid hh
  clear hh h0
  go_wp2_with fail
  have hemp := empty_any d W1
  rw [VD.val6] at hemp
  refine (hemp).mono ?_
  rintro e W2 ⟨rfl, hb⟩
  have R2 := Lib.hid (R1.out.ext hb)
  clear c0 c1 c2 c3 c4 c5 m0 hb
  obtain ⟨c0, c1, c2, c3, c4, c5⟩ := (R2.out.val).six
  have m0 := R2.out.most.cell 0
  simp only [List.getElem?_toArray, List.getElem?_cons_zero] at m0
  clear hemp
  cases h1 : emptyOk d.sort d.on d.n d.text d.list.length d.keys.length with
  | false =>
    have hf : q = false := by rw [HH1.out, h1]; simp
    have Hf := Lib.hid hf
    clear hf
    go_wp2
    go_ret
    exact ⟨by rw [Hf.out]; rfl, R2.out.below⟩
  | true =>
  have hh : q = (distinct d.keys && (decide (d.sort < 4) || (decide (0 < m) && !(d.list.any fun x => !(right (m - 1) x.v))))) := by rw [HH1.out, h1]; simp
  have HH2 := Lib.hid hh
  clear hh h1
  go_wp2_with fail
  refine (distinct_any d.ka d.kc d.keys W2 (HG.out.ext R2.out.below) (HV.out.ext R2.out.below).krow s2 S4.out).mono ?_
  rintro e W3 ⟨v, rfl, hb, b, rfl, hbd⟩
  rw [← Bool.eq_iff_iff] at hbd
  subst hbd
  have R3 := Lib.hid (R2.out.ext hb)
  clear c0 c1 c2 c3 c4 c5 m0 hb
  obtain ⟨c0, c1, c2, c3, c4, c5⟩ := (R3.out.val).six
  have m0 := R3.out.most.cell 0
  simp only [List.getElem?_toArray, List.getElem?_cons_zero] at m0
  cases h2 : distinct d.keys with
  | false =>
    have hf : q = false := by rw [HH2.out, h2]; simp
    have Hf := Lib.hid hf
    clear hf
    go_wp2
    go_ret
    exact ⟨by rw [Hf.out]; rfl, R3.out.below⟩
  | true =>
  have hh : q = ((decide (d.sort < 4) || (decide (0 < m) && !(d.list.any fun x => !(right (m - 1) x.v))))) := by rw [HH2.out, h2]; simp
  have HH3 := Lib.hid hh
  clear hh h2
  by_cases h4 : d.sort < 4
  · have hf : q = true := by first | (rw [HH3.out, decide_eq_true h4]; done) | (rw [HH3.out, decide_eq_true h4]; rfl)
    have Hf := Lib.hid hf
    clear hf
    go_wp2
    go_ret
    exact ⟨by rw [Hf.out]; rfl, R3.out.below⟩
  have hh : q = (decide (0 < m) && !(d.list.any fun x => !(right (m - 1) x.v))) := by first | (rw [HH3.out, decide_eq_false h4]; done) | (rw [HH3.out, decide_eq_false h4]; rfl)
  have HH4 := Lib.hid hh
  clear hh
  by_cases hz : n = 0
  · have hf : q = false := by
      have : m = 0 := by have := HN.out; omega
      rw [HH4.out, this]; rfl
    have Hf := Lib.hid hf
    clear hf
    go_wp2
    go_ret
    exact ⟨by rw [Hf.out]; rfl, R3.out.below⟩
  have hpos : 0 < n := by omega
  have hmp : 0 < m := by have := HN.out; omega
  have hcon := containsfunc_any d.a d.c d.list W3 #[.pointer (some ⟨w.heap.size + 1, 0, none⟩)] (HV.out.ext R3.out.below).row s3 (fun x => !(right (m - 1) x.v)) (fun W x hb hx =>
    right1_any (m - 1) (HI.out hmp) x W (w.heap.size + 1) n (R3.out.ext hb).most (by have := HN.out; omega) (by omega) (HG.out.ext (R3.out.ext hb).below) ((HV.out.kid x hx).ext (R3.out.ext hb).below) (S5.out x hx))
  have hmf : ∀ (fn : Fn) (first cap : Array Value) (w : World), (Instr.makeFunc fn first cap).run Tryz.prog w = .ok (.func fn first cap) w := fun _ _ _ _ => rfl
  have HC := Lib.hid hcon
  clear hcon
  go_wp2_with fail
  refine HC.out.mono ?_
  rintro e W4 ⟨rfl, hb⟩
  have R4 := Lib.hid (R3.out.ext hb)
  clear c0 c1 c2 c3 c4 c5 m0 hb
  have hf : q = !(d.list.any fun x => !(right (m - 1) x.v)) := by first | (rw [HH4.out, decide_eq_true hmp]; done) | (rw [HH4.out, decide_eq_true hmp]; rfl)
  have Hf := Lib.hid hf
  clear hf
  go_wp2
  go_ret
  exact ⟨by rw [Hf.out]; rfl, R4.out.below⟩
theorem right_all : ∀ m : Nat, m ≤ 20 → RightAt m
  | 0, _ => fun d w hG hv hs => right_walk 0 (by omega) d w hG hv hs (fun h => by omega)
  | m + 1, h => fun d w hG hv hs => right_walk (m + 1) h d w hG hv hs (fun _ => Lib.hid (right_all m (by omega)))
set_option maxHeartbeats 1000000 in
theorem vright_any (d : VD) (w : World) (hG : Glob w) (hv : ValAt w (fun _ => True) d) (hs : sizeV d.v ≤ 1048576) : Calls Tryz.prog 49 #[d.val] w (BoE w (right 20 d.v)) := by
  have hb := below_a1 w (.cells #[.int .i64 d.sort, .bool d.on, .int .i64 d.n, .string ⟨d.text.toArray⟩, .slice d.a d.list.length d.c, .slice d.ka d.keys.length d.kc] 36)
  have h1 := right_all 20 (by omega) d _ (hG.ext hb) (hv.ext hb) hs
  have HB := Lib.hid hb
  have H1 := Lib.hid h1
  rw [VD.val6] at H1 ⊢
  clear hb h1 hG hv
  go_enter Tryz.func49, Tryz.ntmps49
  go_wp2_with fail
  refine H1.out.mono ?_
  rintro e W ⟨rfl, hb2⟩
  have HB2 := Lib.hid hb2
  clear hb2
  go_wp2
  go_ret
  exact ⟨rfl, HB.out.trans (HB2.out.mono HB.out.size)⟩
end Go.Proofs.YthnbeebilomchaaGreatDoor

namespace Go.Proofs.YthnbeebilomchaaGreatDoor
open Go Go.RowKit

set_option maxHeartbeats 400000 in
theorem equal_any (a b : Option Addr) (ca cb : Nat) (la lb : List (List UInt8)) (w : World) (ha : Row w 1 a la.length (la.map strV)) (hb : Row w 1 b lb.length (lb.map strV)) (hl : la.length ≤ 1099511627776) :
    Calls Tryz.prog 53 #[.slice a la.length ca, .slice b lb.length cb] w (Ret w (IsB (la = lb))) := by
  have HA := Lib.hid ha
  have HB := Lib.hid hb
  clear ha hb
  go_enter Tryz.func53, Tryz.ntmps53
  by_cases hn : la.length = lb.length
  · have hn2 : ((la.length : Int) != lb.length) = false := by simp [hn]
    go_wp2
    go_loopw [4, 13] (fun _ i wq => ∃ k : Nat, k ≤ la.length ∧ i = .int .i64 k ∧ Hid (Below w.heap.size w wq ∧ ∀ j, j < k → la[j]? = lb[j]?)) (fun _ i _ => la.length - (intOf i).toNat)
    case atStart => exact ⟨0, Nat.zero_le _, rfl, Below.refl _ _, fun j h => by omega⟩
    case round =>
      obtain ⟨k, hk, rfl, hq⟩ := hrel
      by_cases hlt : k < la.length
      · obtain ⟨x, hx⟩ := get_some hlt
        obtain ⟨y, hy⟩ := get_some (l := lb) (i := k) (by omega)
        obtain ⟨ab, ao, rfl, v1⟩ := (HA.out.ext hq.out.1).elem1 hx
        obtain ⟨bb, bo, rfl, v2⟩ := (HB.out.ext hq.out.1).elem1 hy
        have Hx := Lib.hid hx
        have Hy := Lib.hid hy
        have hkl : (k : Int) < la.length := by omega
        have hkl2 : (k : Int) < lb.length := by omega
        have u1 : wr.cell? ⟨ab, ao + k, none⟩ = some (.string ⟨x.toArray⟩) := v1
        have u2 : wr.cell? ⟨bb, bo + k, none⟩ = some (.string ⟨y.toArray⟩) := v2
        clear hx hy v1 v2
        by_cases hxy : x = y
        · have hne : (x == y) = true := by simpa using hxy
          have Hxy := Lib.hid hxy
          clear hxy
          go_wp2_with fail
          go_quiet (fail)
          go_wp2
          go_roundw
          case rel =>
            refine ⟨k + 1, by omega, by go_num, below_drew hq.out.1 _, fun j hj => ?_⟩
            rcases Nat.lt_or_ge j k with h | h
            · exact hq.out.2 j h
            · obtain rfl : j = k := by omega
              rw [Hx.out, Hy.out, Hxy.out]
          case measure => simp [intOf]; omega
        · have hne : (x == y) = false := by simpa using hxy
          have Hxy := Lib.hid hxy
          clear hxy
          go_wp2_with fail
          go_quiet (fail)
          go_wp2
          go_ret
          exact ⟨_, rfl, below_drew hq.out.1 _, isB_false fun h => Hxy.out (by have := Hx.out; rw [h, Hy.out] at this; simpa using this.symm)⟩
      · obtain rfl : k = la.length := by omega
        go_wp2
        go_ret
        exact ⟨_, rfl, hq.out.1, isB_true (List.ext_getElem? fun i => by rcases Nat.lt_or_ge i la.length with h | h; exact hq.out.2 i h; rw [List.getElem?_eq_none h, List.getElem?_eq_none (by omega)])⟩
  · have hn2 : ((la.length : Int) != lb.length) = true := by simp; omega
    go_wp2
    go_ret
    exact ⟨_, rfl, Below.refl _ _, isB_false fun h => hn (by rw [h])⟩

set_option maxHeartbeats 1000000 in
theorem equalfunc_any (a b : Option Addr) (ca cb : Nat) (l m : List VD) (w : World) (ha : Row w 6 a l.length (l.flatMap VD.cells)) (hb : Row w 6 b m.length (m.flatMap VD.cells)) (hl : l.length ≤ 1048576)
    (hc : ∀ W (j : Nat) x y, Below w.heap.size w W → l[j]? = some x → m[j]? = some y → Calls Tryz.prog 28 #[x.val, y.val] W (Ret W (IsB (x.v = y.v)))) :
    Calls Tryz.prog 54 #[.slice a l.length ca, .slice b m.length cb, .func (.func 28) #[] #[]] w (Ret w (IsB (l.map VD.v = m.map VD.v))) := by
  have HA := Lib.hid ha
  have HB := Lib.hid hb
  have HC := Lib.hid hc
  clear ha hb hc
  go_enter Tryz.func54, Tryz.ntmps54
  by_cases hn : l.length = m.length
  · have hn2 : ((l.length : Int) != m.length) = false := by simp [hn]
    have Hn := Lib.hid hn
    clear hn
    go_wp2
    go_loopw [6, 17] (fun _ i wq => ∃ k : Nat, k ≤ l.length ∧ i = .int .i64 k ∧ Hid (Below w.heap.size w wq ∧ ∀ j, j < k → (l.map VD.v)[j]? = (m.map VD.v)[j]?)) (fun _ i _ => l.length - (intOf i).toNat)
    case atStart => exact ⟨0, Nat.zero_le _, rfl, Lib.hid ⟨Below.refl _ _, fun j h => by omega⟩⟩
    case round =>
      obtain ⟨k, hk, rfl, hq⟩ := hrel
      by_cases hlt : k < l.length
      · obtain ⟨x, hx⟩ := get_some hlt
        obtain ⟨y, hy⟩ := get_some (l := m) (i := k) (by have := Hn.out; omega)
        have hwl := hq.out.1.size
        obtain ⟨ab, ao, rfl, v0, v1, v2, v3, v4, v5⟩ := val_at (HA.out.ext hq.out.1) hx
        obtain ⟨bb, bo, rfl, u0, u1, u2, u3, u4, u5⟩ := val_at (HB.out.ext hq.out.1) hy
        have hbl : bb < wr.heap.size := cell_lt u0
        have Hx := Lib.hid hx
        have Hy := Lib.hid hy
        have hkl : (k : Int) < l.length := by omega
        have hkl2 : (k : Int) < m.length := by have := Hn.out; omega
        unfold strV at v3 u3
        have hcx := fun W hW => HC.out W k x y hW hx hy
        rw [VD.val6, VD.val6] at hcx
        have HCX := Lib.hid hcx
        clear hx hy hcx
        go_wp2_with fail
        refine (HCX.out _ ((hq.out.1.alloc hwl _).alloc (by simp; omega) _)).mono ?_
        rintro e W2 ⟨v, rfl, hb2, bo, rfl, hbo⟩
        have HB2 : Hid (Below w.heap.size w W2) := Lib.hid ((((hq.out.1.alloc hwl _).alloc (by simp; omega) _)).trans (hb2.mono (by simp; omega)))
        have HBO := Lib.hid hbo
        clear hb2 hbo HCX v0 v1 v2 v3 v4 v5 u0 u1 u2 u3 u4 u5
        cases bo with
        | true =>
          have Hxy : Hid (x.v = y.v) := Lib.hid (HBO.out.1 rfl)
          go_wp2
          go_roundw
          case rel =>
            refine ⟨k + 1, by omega, by go_num, Lib.hid ⟨HB2.out, fun j hj => ?_⟩⟩
            rcases Nat.lt_or_ge j k with h | h
            · exact hq.out.2 j h
            · obtain rfl : j = k := by omega
              rw [List.getElem?_map, List.getElem?_map, Hx.out, Hy.out, Option.map_some, Option.map_some, Hxy.out]
          case measure => simp [intOf]; omega
        | false =>
          have Hxy : Hid (x.v ≠ y.v) := Lib.hid (fun h => by have := HBO.out.2 h; cases this)
          go_wp2
          go_ret
          exact ⟨_, rfl, HB2.out, isB_false fun h => Hxy.out (by
            have h2 := congrArg (fun z => z[k]?) h
            simp only [List.getElem?_map, Hx.out, Hy.out, Option.map_some] at h2
            exact Option.some.inj h2)⟩
      · obtain rfl : k = l.length := by omega
        go_wp2
        go_ret
        exact ⟨_, rfl, hq.out.1, isB_true (List.ext_getElem? fun i => by rcases Nat.lt_or_ge i l.length with h | h; exact hq.out.2 i h; rw [List.getElem?_eq_none (by simpa using h), List.getElem?_eq_none (by have := Hn.out; simp; omega)])⟩
  · have hn2 : ((l.length : Int) != m.length) = true := by simp; omega
    go_wp2
    go_ret
    exact ⟨_, rfl, Below.refl _ _, isB_false fun h => hn (by have := congrArg List.length h; simpa using this)⟩

structure SB (w W : World) (d e : VD) : Prop where
  one : Blk W w.heap.size #[.int .i64 d.sort, .bool d.on, .int .i64 d.n, .string ⟨d.text.toArray⟩, .slice d.a d.list.length d.c, .slice d.ka d.keys.length d.kc] 36
  two : Blk W (w.heap.size + 1) #[.int .i64 e.sort, .bool e.on, .int .i64 e.n, .string ⟨e.text.toArray⟩, .slice e.a e.list.length e.c, .slice e.ka e.keys.length e.kc] 36
  below : Below w.heap.size w W
theorem SB.ext {w W W' : World} {d e : VD} (h : SB w W d e) (hb : Below W.heap.size W W') : SB w W' d e := ⟨h.one.ext hb, h.two.ext hb, h.below.trans (hb.mono h.below.size)⟩
theorem v_same (d e : VD) : d.v = e.v ↔ d.sort = e.sort ∧ d.on = e.on ∧ d.n = e.n ∧ d.text = e.text ∧ d.keys = e.keys ∧ d.list.map VD.v = e.list.map VD.v := by
  rw [VD.v_eq, VD.v_eq, V.mk.injEq]
  constructor
  · rintro ⟨a, b, c, d, e, f⟩; exact ⟨a, b, c, d, f, e⟩
  · rintro ⟨a, b, c, d, e, f⟩; exact ⟨a, b, c, d, f, e⟩
set_option maxHeartbeats 4000000 in
theorem same_walk (d e : VD) (w : World) (hd : ValAt w (fun _ => True) d) (he : ValAt w (fun _ => True) e) (hs : sizeV d.v ≤ 1048576)
    (hc : ∀ W (j : Nat) x y, Below w.heap.size w W → d.list[j]? = some x → e.list[j]? = some y → Calls Tryz.prog 28 #[x.val, y.val] W (Ret W (IsB (x.v = y.v)))) :
    Calls Tryz.prog 28 #[d.val, e.val] w (Ret w (IsB (d.v = e.v))) := by
  obtain ⟨W0, hW0⟩ : ∃ W0, W0 = (w.alloc (.cells #[.int .i64 d.sort, .bool d.on, .int .i64 d.n, .string ⟨d.text.toArray⟩, .slice d.a d.list.length d.c, .slice d.ka d.keys.length d.kc] 36)).alloc (.cells #[.int .i64 e.sort, .bool e.on, .int .i64 e.n, .string ⟨e.text.toArray⟩, .slice e.a e.list.length e.c, .slice e.ka e.keys.length e.kc] 36) := ⟨_, rfl⟩
  have S0 : Hid (SB w W0 d e) := Lib.hid (by rw [hW0]; exact ⟨(Blk.new rfl).alloc _, Blk.new (by simp), (below_a1 w _).alloc (by simp) _⟩)
  have hsz : sizeV (.mk d.sort d.on d.n d.text (d.list.map VD.v) d.keys) ≤ 1048576 := by rw [← VD.v_eq]; exact hs
  obtain ⟨s1, s2, s3, s4, s5⟩ := size_parts hsz
  rw [List.length_map] at s3
  clear s4 s5 hsz hs
  have HC := Lib.hid hc
  have HD := Lib.hid hd
  have HE := Lib.hid he
  rw [VD.val6, VD.val6]
  clear hd he hc
  obtain ⟨c0, c1, c2, c3, c4, c5⟩ := S0.out.one.six
  obtain ⟨e0, e1, e2, e3, e4, e5⟩ := S0.out.two.six
  go_enter Tryz.func28, Tryz.ntmps28
  go_upto_region 1 with (fail)
  rw [← hW0]
  clear hW0
  have hp := v_same d e
  generalize hP : (d.v = e.v) = P at *
  clear hP
  by_cases a1 : d.sort = e.sort
  case neg =>
    have a1' : (d.sort == e.sort) = false := by simpa using a1
    have Hn : Hid (¬ P) := Lib.hid (fun h => a1 (hp.1 h).1)
    clear hp a1
    go_wp2
    go_ret
    exact ⟨_, rfl, S0.out.below, isB_false Hn.out⟩
  by_cases a2 : d.on = e.on
  case neg =>
    have a2' : (d.on == e.on) = false := by simpa using a2
    have Hn : Hid (¬ P) := Lib.hid (fun h => a2 (hp.1 h).2.1)
    clear hp a2
    go_wp2
    go_ret
    exact ⟨_, rfl, S0.out.below, isB_false Hn.out⟩
  by_cases a3 : d.n = e.n
  case neg =>
    have a3' : (d.n == e.n) = false := by simpa using a3
    have Hn : Hid (¬ P) := Lib.hid (fun h => a3 (hp.1 h).2.2.1)
    clear hp a3
    go_wp2
    go_ret
    exact ⟨_, rfl, S0.out.below, isB_false Hn.out⟩
  by_cases a4 : d.text = e.text
  case neg =>
    have a4' : (d.text == e.text) = false := by simpa using a4
    have Hn : Hid (¬ P) := Lib.hid (fun h => a4 (hp.1 h).2.2.2.1)
    clear hp a4
    go_wp2
    go_ret
    exact ⟨_, rfl, S0.out.below, isB_false Hn.out⟩
  have hp2 : P ↔ d.keys = e.keys ∧ d.list.map VD.v = e.list.map VD.v := by rw [hp]; simp [a1, a2, a3, a4]
  have a4' : (d.text == e.text) = true := by simpa using a4
  have HP := Lib.hid hp2
  have A4 := Lib.hid a4
  clear hp hp2 a4
  have hk := equal_any d.ka e.ka d.kc e.kc d.keys e.keys W0 (HD.out.ext S0.out.below).krow (HE.out.ext S0.out.below).krow (by omega)
  have HK := Lib.hid hk
  clear hk
  go_wp2_with fail
  refine HK.out.mono ?_
  rintro r W1 ⟨v, rfl, hb, bo, rfl, hbo⟩
  have S1 := Lib.hid (S0.out.ext hb)
  clear c0 c1 c2 c3 c4 c5 e0 e1 e2 e3 e4 e5 hb HK
  obtain ⟨c0, c1, c2, c3, c4, c5⟩ := S1.out.one.six
  obtain ⟨e0, e1, e2, e3, e4, e5⟩ := S1.out.two.six
  cases bo with
  | false =>
    have Hn : Hid (¬ P) := Lib.hid (fun h => by have := hbo.2 (HP.out.1 h).1; cases this)
    clear hbo
    go_wp2
    go_ret
    exact ⟨_, rfl, S1.out.below, isB_false Hn.out⟩
  | true =>
    have Hk : Hid (d.keys = e.keys) := Lib.hid (hbo.1 rfl)
    clear hbo
    have hf := equalfunc_any d.a e.a d.c e.c d.list e.list W1 (HD.out.ext S1.out.below).row (HE.out.ext S1.out.below).row s3 (fun W j x y hb => HC.out W j x y (S1.out.ext hb).below)
    have HF := Lib.hid hf
    clear hf
    go_wp2_with fail
    refine HF.out.mono ?_
    rintro r W2 ⟨v, rfl, hb, bo, rfl, hbo⟩
    have S2 := Lib.hid (S1.out.ext hb)
    have HBO : Hid (bo = true ↔ P) := Lib.hid (by rw [hbo, HP.out]; simp [Hk.out])
    clear c0 c1 c2 c3 c4 c5 e0 e1 e2 e3 e4 e5 hb HF hbo
    go_wp2
    go_ret
    exact ⟨_, rfl, S2.out.below, bo, rfl, HBO.out⟩
theorem same_any : ∀ (d e : VD) (w : World), ValAt w (fun _ => True) d → ValAt w (fun _ => True) e → sizeV d.v ≤ 1048576 → Calls Tryz.prog 28 #[d.val, e.val] w (Ret w (IsB (d.v = e.v))) := by
  intro d
  induction d using VD.ind with
  | h s o n t a c l ka kc ks ih =>
    intro e w hd he hs
    refine same_walk _ e w hd he hs fun W j x y hb hx hy => ?_
    have hxm : x ∈ l := List.mem_of_getElem? hx
    have hsz := (size_parts (by rw [VD.v_eq] at hs; exact hs)).2.2.2.2
    exact ih x hxm y W ((hd.kid x hxm).ext hb) ((he.kid y (List.mem_of_getElem? hy)).ext hb) (hsz x.v (List.mem_map_of_mem hxm))
end Go.Proofs.YthnbeebilomchaaGreatDoor

namespace Go.Proofs.YthnbeebilomchaaGreatDoor
open Go Go.RowKit

theorem byteCells_app (l : Nm) (m : Nm) : Lib.byteCells (l ++ m) = Lib.byteCells l ++ Lib.byteCells m := by simp [Lib.byteCells]
/-- what a byte becomes between quotes -/
theorem quoteB_low {c : UInt8} (h : c.toNat < 32) : quoteB c = [92, 117, 48, 48, hexFig (c.toNat / 16), hexFig (c.toNat % 16)] := by
  unfold quoteB; rw [if_pos (UInt8.lt_iff_toNat_lt.2 h)]
theorem quoteB_two {c : UInt8} (h : ¬ c.toNat < 32) (h2 : c.toNat = 34 ∨ c.toNat = 92) : quoteB c = [92, c] := by
  unfold quoteB
  rw [if_neg (fun e => h (UInt8.lt_iff_toNat_lt.1 e)), if_pos (h2.imp (fun e => UInt8.toNat_inj.1 e) (fun e => UInt8.toNat_inj.1 e))]
theorem quoteB_one {c : UInt8} (h : ¬ c.toNat < 32) (h2 : ¬ c.toNat = 34) (h3 : ¬ c.toNat = 92) : quoteB c = [c] := by
  unfold quoteB
  rw [if_neg (fun e => h (UInt8.lt_iff_toNat_lt.1 e)), if_neg]
  rintro (rfl | rfl)
  · exact h2 rfl
  · exact h3 rfl
/-- the builder while a text is put between quotes -/
structure QB (w W : World) (acc : Nm) : Prop where
  bld : Lib.IsBuilder 146 5 w.heap.size w.heap.size (Lib.byteCells acc) W
  below : Below w.heap.size w W
  lt : w.heap.size < W.heap.size
theorem QB.byte {w W W' : World} {acc : Nm} {c : UInt8} (h : QB w W acc) (hb : Lib.BuilderAt 146 5 w.heap.size w.heap.size (.pointer (some ⟨w.heap.size, 0, none⟩)) (Lib.byteCells acc ++ [.int .u8 (c.toNat : Int)]) W') (hk : Below w.heap.size W W') : QB w W' (acc ++ [c]) :=
  ⟨by rw [byteCells_app]; exact .inr hb, h.below.trans hk, Nat.lt_of_lt_of_le h.lt hk.size⟩
theorem QB.str {w W W' : World} {acc : Nm} {s : Nm} (h : QB w W acc) (hb : Lib.BuilderAt 146 5 w.heap.size w.heap.size (.pointer (some ⟨w.heap.size, 0, none⟩)) (Lib.byteCells acc ++ Lib.strCells ⟨s.toArray⟩) W') (hk : Below w.heap.size W W') : QB w W' (acc ++ s) :=
  ⟨by rw [byteCells_app]; exact .inr hb, h.below.trans hk, Nat.lt_of_lt_of_le h.lt hk.size⟩
theorem QB.ext {w W W' : World} {acc : Nm} (h : QB w W acc) (hk : Below W.heap.size W W') : QB w W' acc :=
  ⟨builder_ext h.bld hk, h.below.trans (hk.mono h.below.size), Nat.lt_of_lt_of_le h.lt hk.size⟩
theorem cat_nm (a b : Nm) : (⟨a.toArray⟩ : ByteArray) ++ (⟨b.toArray⟩ : ByteArray) = ⟨(a ++ b).toArray⟩ := by
  apply ba_eq
  rw [ByteArray.data_append]
  simp
theorem cat6 (A B : UInt8) : (⟨#[92, 117, 48, 48]⟩ : ByteArray) ++ (⟨#[A, B]⟩ : ByteArray) = ⟨([92, 117, 48, 48, A, B] : Nm).toArray⟩ := cat_nm [92, 117, 48, 48] [A, B]
theorem cat2 (c : UInt8) : (⟨#[92]⟩ : ByteArray) ++ (⟨#[c]⟩ : ByteArray) = ⟨([92, c] : Nm).toArray⟩ := cat_nm [92] [c]
theorem quotes_take {s : Nm} {k : Nat} {c : UInt8} (h : s[k]? = some c) : (s.take (k + 1)).flatMap quoteB = (s.take k).flatMap quoteB ++ quoteB c := by
  rw [take_one h, List.flatMap_append]; simp
theorem index_nm (s : Nm) {k : Nat} {c : UInt8} (h : s[k]? = some c) : ∃ hk : k < (⟨s.toArray⟩ : ByteArray).size, (⟨s.toArray⟩ : ByteArray)[k] = c := by
  have hk : k < s.length := (List.getElem?_eq_some_iff.1 h).1
  refine ⟨by rw [size_nm]; exact hk, ?_⟩
  have h2 := (List.getElem?_eq_some_iff.1 h).2
  rw [← h2]
  rfl
theorem conv_blk {w : World} {g : Nat} (l : Nm) (n : Nat) (hn : l.length = n) (hb : Blk w g (l.map fun c => Value.int .u8 (c.toNat : Int)).toArray 5) : Sem.run Tryz.prog (convert 144 9 (.slice (some ⟨g, 0, none⟩) n n)) w = .ok (.string ⟨l.toArray⟩) w := by
  have h := Lib.run_convert_whole (P := Tryz.prog) w 144 5 9 Tryz.underlying144 Tryz.underlying5 Tryz.underlying9 g 0 ⟨l.toArray⟩ (by
    intro i hi
    rw [size_nm] at hi
    have hc := hb.cell i
    rw [List.getElem?_toArray, List.getElem?_map, List.getElem?_eq_getElem hi] at hc
    rw [Nat.zero_add]
    exact hc) n
  rw [size_nm, hn] at h
  exact h
theorem conv_any (w : World) (l : Nm) (n : Nat) (hn : l.length = n) : Sem.run Tryz.prog (convert 144 9 (.slice (some ⟨w.heap.size, 0, none⟩) n n)) (w.alloc (.cells (l.map fun c => Value.int .u8 (c.toNat : Int)).toArray 5)) = .ok (.string ⟨l.toArray⟩) (w.alloc (.cells (l.map fun c => Value.int .u8 (c.toNat : Int)).toArray 5)) :=
  conv_blk l n hn (Blk.new rfl)
theorem conv_drew (w : World) (l : Nm) (n : Nat) (hn : l.length = n) : Sem.run Tryz.prog (convert 144 9 (.slice (some ⟨w.heap.size, 0, none⟩) n n)) (w.alloc (.cells (l.map fun c => Value.int .u8 (c.toNat : Int)).toArray 5)).drew = .ok (.string ⟨l.toArray⟩) (w.alloc (.cells (l.map fun c => Value.int .u8 (c.toNat : Int)).toArray 5)).drew :=
  conv_blk l n hn (by exact (Blk.new rfl : Blk (w.alloc _) _ _ _))
theorem and15 : ∀ n : Fin 32, bits BinOp.and IntKind.u8 (n.val : Int) 15 = ((n.val % 16 : Nat) : Int) := by decide
theorem bits15 {m : Int} (h0 : 0 ≤ m) (h1 : m < 32) : bits BinOp.and IntKind.u8 m 15 = m % 16 := by
  obtain ⟨n, rfl⟩ := Int.eq_ofNat_of_zero_le h0
  have := and15 ⟨n, by omega⟩
  simpa using this
theorem hexs : ∀ (n : Nat) (h : n < (⟨#[48, 49, 50, 51, 52, 53, 54, 55, 56, 57, 97, 98, 99, 100, 101, 102]⟩ : ByteArray).size), (⟨#[48, 49, 50, 51, 52, 53, 54, 55, 56, 57, 97, 98, 99, 100, 101, 102]⟩ : ByteArray)[n]'h = hexFig n
  | 0, _ => rfl | 1, _ => rfl | 2, _ => rfl | 3, _ => rfl | 4, _ => rfl | 5, _ => rfl | 6, _ => rfl | 7, _ => rfl | 8, _ => rfl | 9, _ => rfl | 10, _ => rfl | 11, _ => rfl | 12, _ => rfl | 13, _ => rfl | 14, _ => rfl | 15, _ => rfl
  | n + 16, h => absurd (show n + 16 < 16 from h) (by omega)
set_option maxHeartbeats 2000000 in
theorem quoted_any (s : Nm) (w : World) (hs : s.length ≤ 16777216) : Calls Tryz.prog 71 #[.string ⟨s.toArray⟩] w (fun e w' => e = .returned (.string ⟨(quoted s).toArray⟩) ∧ Below w.heap.size w w') := by
  obtain ⟨z, hz⟩ : ∃ z : ByteArray, z = ⟨s.toArray⟩ := ⟨_, rfl⟩
  have hzs : z.size = s.length := by rw [hz]; exact size_nm s
  rw [← hz]
  have H0 : Hid (Lib.IsBuilder 146 5 w.heap.size w.heap.size (Lib.byteCells []) (w.alloc (.cells #[.pointer none, .slice none 0 0] 146))) := Lib.hid (Lib.fresh_isBuilder _ _ _)
  have HZ := Lib.hid hz
  have HS := Lib.hid hs
  clear hz hs
  go_enter Tryz.func71, Tryz.ntmps71
  go_wp2_with fail
  refine (writeB_any _ _ _ 34 _ H0.out (by simp [Lib.byteCells]) (by simp)).mono ?_
  rintro e W1 ⟨rfl, hb, hk⟩
  have hq1 : QB w W1 [34] := ⟨.inr hb, (below_a1 w _).trans hk, by have := hk.size; simp at this; omega⟩
  have HQ1 := Lib.hid hq1
  clear hb hk hq1 H0
  go_wp2_with fail
  go_loopw [9] (fun i wr => ∃ k : Nat, k ≤ s.length ∧ i = .int .i64 k ∧ Hid (QB w wr (34 :: (s.take k).flatMap quoteB))) (fun i _ => s.length - (intOf i).toNat)
  case atStart => exact ⟨0, Nat.zero_le _, rfl, HQ1⟩
  case round =>
    obtain ⟨k, hk, rfl, hq⟩ := hrel
    by_cases hlt : k < s.length
    · obtain ⟨c, hc⟩ := get_some hlt
      have hzk : ∃ hk : k < z.size, z[k] = c := by rw [HZ.out]; exact index_nm s hc
      obtain ⟨hkz, hzc⟩ := hzk
      have hkn : (k : Int) < z.size := by omega
      have hki : (k : Int) + 1 ≤ 16777216 := by have := HS.out; omega
      have hcc : ((z[k].toNat : Nat) : Int) = (c.toNat : Int) := by rw [hzc]
      have hlen : (34 :: (s.take k).flatMap quoteB).length ≤ 6 * k + 1 := by
        have := quotes_len (s.take k)
        rw [List.length_take] at this
        simp only [List.length_cons]; omega
      have Hlen := Lib.hid hlen
      have Htk := Lib.hid (quotes_take hc)
      clear hlen hc hzc
      obtain ⟨m, hm⟩ : ∃ m : Int, m = (c.toNat : Int) := ⟨_, rfl⟩
      rw [← hm] at hcc
      have HM := Lib.hid hm
      have hm0 : 0 ≤ m := by omega
      clear hm
      by_cases h32 : m < 32
      · go_wp2_with fail
        have Hq6 : Hid (quoteB c = [92, 117, 48, 48, hexFig (m / 16).toNat, hexFig (m % 16).toNat]) := Lib.hid (by rw [quoteB_low (by have := HM.out; omega)]; have := HM.out; subst this; rfl)
        have hx0 : 0 ≤ m / 16 := by omega
        have hx1 : m / 16 < 16 := by omega
        have hx2 : 0 ≤ m % 16 := by omega
        have hx3 : m % 16 < 16 := by omega
        have hx4 : bits BinOp.and IntKind.u8 m 15 = m % 16 := bits15 hm0 h32
        refine wp_region_held_drew (S := fun _ => True) (by kernel_rfl) ?_ (fun hHeld => ?_)
        · trivial
        refine wpAnyH_take (i := 0) (oi := ⟨some 20, _, _, _, _, _⟩) (v := ?_) rfl (by kernel_rfl) (by kernel_rfl) (by kernel_rfl) (fun _ _ _ h => h) (Or.inl ⟨by rfl, ?_⟩) (by assumption) ?_; rotate_left; focus (intro w hSw; (try dsimp only at hSw); first | (go_simp; done) | (go_simp; with_reducible rfl))
        try simp only [Act.put]
        try simp only [List.setIfInBounds_toArray]
        try simp only [List.set_cons_succ, List.set_cons_zero]
        refine wpAnyH_take (i := 1) (oi := ⟨some 21, _, _, _, _, _⟩) (v := ?_) rfl (by kernel_rfl) (by kernel_rfl) (by kernel_rfl) (fun _ _ _ h => h) (Or.inl ⟨by rfl, ?_⟩) (by assumption) ?_; rotate_left; focus (intro w hSw; (try dsimp only at hSw); first | (go_simp; done) | (go_simp; with_reducible rfl))
        try simp only [Act.put]
        try simp only [List.setIfInBounds_toArray]
        try simp only [List.set_cons_succ, List.set_cons_zero]
        refine wpAnyH_take (i := 2) (oi := ⟨some 22, _, _, _, _, _⟩) (v := ?_) rfl (by kernel_rfl) (by kernel_rfl) (by kernel_rfl) (fun _ _ _ h => h) (Or.inl ⟨by rfl, ?_⟩) (by assumption) ?_; rotate_left; focus (intro w hSw; (try dsimp only at hSw); first | (go_simp; done) | (go_simp; with_reducible rfl))
        try simp only [Act.put]
        try simp only [List.setIfInBounds_toArray]
        try simp only [List.set_cons_succ, List.set_cons_zero]
        refine wpAnyH_take (i := 3) (oi := ⟨some 23, _, _, _, _, _⟩) (v := ?_) rfl (by kernel_rfl) (by kernel_rfl) (by kernel_rfl) (fun _ _ _ h => h) (Or.inl ⟨by rfl, ?_⟩) (by assumption) ?_; rotate_left; focus (intro w hSw; (try dsimp only at hSw); first | (go_simp; done) | (go_simp; with_reducible rfl))
        try simp only [Act.put]
        try simp only [List.setIfInBounds_toArray]
        try simp only [List.set_cons_succ, List.set_cons_zero]
        refine wpAnyH_take (i := 4) (oi := ⟨some 24, _, _, _, _, _⟩) (v := ?_) rfl (by kernel_rfl) (by kernel_rfl) (by kernel_rfl) (fun _ _ _ h => h) (Or.inl ⟨by rfl, ?_⟩) (by assumption) ?_; rotate_left; focus (intro w hSw; (try dsimp only at hSw); first | (go_simp; done) | (go_simp; with_reducible rfl))
        try simp only [Act.put]
        try simp only [List.setIfInBounds_toArray]
        try simp only [List.set_cons_succ, List.set_cons_zero]
        refine wpAnyH_take (i := 5) (oi := ⟨some 25, _, _, _, _, _⟩) (v := ?_) rfl (by kernel_rfl) (by kernel_rfl) (by kernel_rfl) (fun _ _ _ h => h) (Or.inl ⟨by rfl, ?_⟩) (by assumption) ?_; rotate_left; focus (intro w hSw; (try dsimp only at hSw); first | (go_simp; done) | (go_simp; with_reducible rfl))
        try simp only [Act.put]
        try simp only [List.setIfInBounds_toArray]
        try simp only [List.set_cons_succ, List.set_cons_zero]
        refine wpAnyH_ready (rs := [6]) (by kernel_rfl) (by simp) ?_
        refine AllReadyH.cons (i := 6) (o := ⟨some 26, _, _, _, _, _⟩) rfl (fun K hK => ?_) ?_
        · rw [hexs, hexs]
          generalize hA : hexFig (m / 16).toNat = A at *
          generalize hB : hexFig (m % 16).toNat = B at *
          have HA := Lib.hid hA
          have HB := Lib.hid hB
          clear hA hB
          have hcv := conv_drew wr [A, B] 2 rfl
          simp only [List.map_cons, List.map_nil] at hcv
          go_simp
          refine hK.out _ _ ?_ (fun hHeld => ?_)
          · trivial
          try simp only [Act.put]
          try simp only [List.setIfInBounds_toArray]
          try simp only [List.set_cons_succ, List.set_cons_zero]
          refine wpAnyH_ready (rs := [7]) (by kernel_rfl) (by simp) ?_
          refine AllReadyH.cons (i := 7) (o := ⟨some 27, _, _, _, _, _⟩) rfl (fun K hK => ?_) ?_
          · simp [go_sem, hcv]
            refine hK.out _ _ ?_ (fun hHeld => ?_)
            · trivial
            try simp only [Act.put]
            try simp only [List.setIfInBounds_toArray]
            try simp only [List.set_cons_succ, List.set_cons_zero]
            refine wpAnyH_take (i := 8) (oi := ⟨some 28, _, _, _, _, _⟩) (v := ?_) rfl (by kernel_rfl) (by kernel_rfl) (by kernel_rfl) (fun _ _ _ h => h) (Or.inl ⟨by rfl, ?_⟩) (by assumption) ?_; rotate_left; focus (intro w hSw; (try dsimp only at hSw); first | (go_simp; done) | (go_simp; with_reducible rfl))
            try simp only [Act.put]
            try simp only [List.setIfInBounds_toArray]
            try simp only [List.set_cons_succ, List.set_cons_zero]
            refine wpAnyH_ready (rs := [9]) (by kernel_rfl) (by simp) ?_
            refine AllReadyH.cons (i := 9) (o := ⟨some 29, _, _, _, _, _⟩) rfl (fun K hK => ?_) ?_
            · go_simp
              rw [cat6]
              have hqa : QB w (wr.alloc (.cells #[.int .u8 (A.toNat : Int), .int .u8 (B.toNat : Int)] 5)).drew (34 :: (s.take k).flatMap quoteB) := hq.out.ext (below_drew (below_a1 _ _) 1)
              have HQA := Lib.hid hqa
              clear hqa
              refine (write_any w.heap.size w.heap.size _ _ _ HQA.out.bld (by have := Hlen.out; have := HS.out; rw [size_nm]; simp [Lib.byteCells] at *; omega) HQA.out.below.size).mono ?_
              rintro e w2 ⟨rfl, hbld, hbel⟩
              have HQ2 := Lib.hid (HQA.out.str hbld hbel)
              clear hbld hbel hcv
              refine hK.out _ _ ?_ (fun hHeld => ?_)
              · trivial
              try simp only [Act.put]
              try simp only [List.setIfInBounds_toArray]
              try simp only [List.set_cons_succ, List.set_cons_zero]
              refine wpAnyH_done (by kernel_rfl) ?_ _
              go_wp2
              go_roundw
              case rel => exact ⟨k + 1, by omega, by go_num, Lib.hid (by rw [Htk.out, Hq6.out]; exact HQ2.out)⟩
              case measure => simp [intOf]; omega
            exact AllReadyH.nil
          exact AllReadyH.nil
        exact AllReadyH.nil
      · have two : ∀ q : Int, m = q → (q = 34 ∨ q = 92) → quoteB c = [92, c] := fun q h h2 => quoteB_two (by have := HM.out; omega) (by have := HM.out; omega)
        have Two := Lib.hid two
        clear two
        by_cases h34 : m = 34
        · have h34' : (m == 34) = true := by simpa using h34
          have Hq2 := Lib.hid (Two.out 34 h34 (.inl rfl))
          have hcv := conv_any wr [c] 1 rfl
          simp only [List.map_cons, List.map_nil] at hcv
          rw [← HM.out, h34] at hcv
          go_wp2_with fail
          rw [cat2]
          refine (write_any w.heap.size w.heap.size _ _ _ (hq.out.ext (below_a1 _ _)).bld (by have := Hlen.out; have := HS.out; rw [size_nm]; simp [Lib.byteCells] at *; omega) (by have := hq.out.below.size; simp; omega)).mono ?_
          rintro e w2 ⟨rfl, hbld, hbel⟩
          have HQ2 := Lib.hid ((hq.out.ext (below_a1 _ _)).str hbld hbel)
          clear hbld hbel hcv
          go_wp2
          go_roundw
          case rel => exact ⟨k + 1, by omega, by go_num, Lib.hid (by rw [Htk.out, Hq2.out]; exact HQ2.out)⟩
          case measure => simp [intOf]; omega
        · by_cases h92 : m = 92
          · have h34' : (m == 34) = false := by simpa using h34
            have h92' : (m == 92) = true := by simpa using h92
            have Hq2 := Lib.hid (Two.out 92 h92 (.inr rfl))
            have hcv := conv_any wr [c] 1 rfl
            simp only [List.map_cons, List.map_nil] at hcv
            rw [← HM.out, h92] at hcv
            go_wp2_with fail
            rw [cat2]
            refine (write_any w.heap.size w.heap.size _ _ _ (hq.out.ext (below_a1 _ _)).bld (by have := Hlen.out; have := HS.out; rw [size_nm]; simp [Lib.byteCells] at *; omega) (by have := hq.out.below.size; simp; omega)).mono ?_
            rintro e w2 ⟨rfl, hbld, hbel⟩
            have HQ2 := Lib.hid ((hq.out.ext (below_a1 _ _)).str hbld hbel)
            clear hbld hbel hcv
            go_wp2
            go_roundw
            case rel => exact ⟨k + 1, by omega, by go_num, Lib.hid (by rw [Htk.out, Hq2.out]; exact HQ2.out)⟩
            case measure => simp [intOf]; omega
          · have Hq1 : Hid (quoteB c = [c]) := Lib.hid (quoteB_one (by have := HM.out; omega) (by have := HM.out; omega) (by have := HM.out; omega))
            have h34' : (m == 34) = false := by simpa using h34
            have h92' : (m == 92) = false := by simpa using h92
            go_wp2_with fail
            rw [HM.out]
            refine (writeB_any w.heap.size w.heap.size _ _ _ hq.out.bld (by have := Hlen.out; have := HS.out; simp [Lib.byteCells] at *; omega) hq.out.below.size).mono ?_
            rintro e w2 ⟨rfl, hbld, hbel⟩
            have HQ2 := Lib.hid (hq.out.byte hbld hbel)
            clear hbld hbel
            go_wp2
            go_roundw
            case rel => exact ⟨k + 1, by omega, by go_num, Lib.hid (by rw [Htk.out, Hq1.out]; exact HQ2.out)⟩
            case measure => simp [intOf]; omega
    · obtain rfl : k = s.length := by omega
      go_wp2_with fail
      refine (writeB_any w.heap.size w.heap.size _ 34 _ hq.out.bld (by have := quotes_len (s.take s.length); have := HS.out; rw [List.length_take] at *; simp [Lib.byteCells] at *; omega) hq.out.below.size).mono ?_
      rintro e w2 ⟨rfl, hbld, hbel⟩
      have hq2 := hq.out.byte (c := 34) hbld hbel
      rw [List.take_length] at hq2
      have HQ2 := Lib.hid hq2
      clear hbld hbel hq2
      go_wp2_with fail
      refine (Tryz.Builder_String_any w.heap.size w.heap.size _ _ HQ2.out.bld (HQ2.out.below.size)).mono ?_
      rintro e w3 ⟨rfl, hb3⟩
      have HB3 := Lib.hid (HQ2.out.below.trans hb3)
      clear hb3
      go_wp2
      go_ret
      exact ⟨rfl, HB3.out⟩
end Go.Proofs.YthnbeebilomchaaGreatDoor

namespace Go.Proofs.YthnbeebilomchaaGreatDoor
open Go Go.RowKit

theorem join_commas : ∀ l : List Nm, Lib.join l [44] = commas l
  | [] => rfl
  | [x] => by simp [Lib.join, commas]
  | x :: y :: l => by
    have := join_commas (y :: l)
    simp [Lib.join, commas] at this ⊢
    exact this
set_option maxHeartbeats 1000000 in
theorem between_any (b e : UInt8) (a : Option Addr) (c : Nat) (L : List Nm) (w : World) (h : Row w 1 a L.length (L.map strV)) (hl : L.length ≤ 1048576) (hc : L.length ≤ c) (hlen : (commas L).length ≤ 140737488355328) :
    Calls Tryz.prog 72 #[.string ⟨#[b]⟩, .string ⟨#[e]⟩, .slice a L.length c] w (fun r w' => r = .returned (.string ⟨(b :: (commas L ++ [e])).toArray⟩) ∧ Below w.heap.size w w') := by
  have hj : Calls Tryz.prog 93 #[.slice a L.length c, .string ⟨#[44]⟩] w (fun r w' => r = .returned (.string ⟨(commas L).toArray⟩) ∧ Below w.heap.size w w') := by
    cases L with
    | nil => exact (Tryz.strings_Join_none a c ⟨#[44]⟩ w).mono fun r w' ⟨h1, h2⟩ => ⟨h1, by rw [h2]; exact Below.refl _ _⟩
    | cons x l =>
      generalize hL : x :: l = L at *
      obtain ⟨bk, off, rfl, hcell⟩ := h.2 (by rw [← hL]; simp)
      have key := Tryz.strings_Join bk off c (L.map fun x => (⟨x.toArray⟩ : ByteArray)) ⟨#[44]⟩ w (fun j y hy => by
        rw [List.getElem?_map] at hy
        cases hz : L[j]? with
        | none => rw [hz] at hy; cases hy
        | some z =>
          rw [hz] at hy
          injection hy with hy
          have hjl : j < L.length := (List.getElem?_eq_some_iff.1 hz).1
          have := hcell j (by omega)
          rw [this, List.getElem?_map, hz, ← hy]
          rfl) (by have h0 := hcell 0 (by rw [← hL]; simp); rw [← hL] at h0; exact cell_lt h0) (by simp; omega) (by simpa using hc) (by
          rw [List.map_map, show ((fun x : ByteArray => x.data.toList) ∘ fun x : Nm => (⟨x.toArray⟩ : ByteArray)) = id from rfl, List.map_id, show (⟨#[44]⟩ : ByteArray).data.toList = [44] from rfl, join_commas]; exact hlen)
      rw [List.map_map, show ((fun x : ByteArray => x.data.toList) ∘ fun x : Nm => (⟨x.toArray⟩ : ByteArray)) = id from rfl, List.map_id, show (⟨#[44]⟩ : ByteArray).data.toList = [44] from rfl, join_commas, List.length_map] at key
      exact key
  have HJ := Lib.hid hj
  clear hj h
  go_enter Tryz.func72, Tryz.ntmps72
  go_wp2_with fail
  refine HJ.out.mono ?_
  rintro r w2 ⟨rfl, hb⟩
  have HB := Lib.hid hb
  clear hb HJ
  go_wp2
  go_ret
  exact ⟨by
    rw [show (⟨#[b]⟩ : ByteArray) = ⟨([b] : Nm).toArray⟩ from rfl, show (⟨#[e]⟩ : ByteArray) = ⟨([e] : Nm).toArray⟩ from rfl, cat_nm, cat_nm]; rfl, HB.out⟩

/-- the texts of a list's values, or a record's -/
def partsT (d : VD) : List Nm := if d.sort = 5 then textKs (d.list.map VD.v) d.keys else textsV (d.list.map VD.v)
theorem textKs_at : ∀ (l : List V) (ks : List Nm) (k : Nat) {v : V} {x : Nm}, l[k]? = some v → ks[k]? = some x → (textKs l ks)[k]? = some (quoted x ++ 58 :: textV v)
  | [], _, _, _, _, h, _ => by simp at h
  | _ :: _, [], _, _, _, _, h => by simp at h
  | y :: l, z :: ks, 0, v, x, h, h2 => by
    simp at h h2
    subst h; subst h2
    simp [textKs]
  | y :: l, z :: ks, k + 1, v, x, h, h2 => by
    simp at h h2
    simpa [textKs] using textKs_at l ks k h h2
theorem textKs_length : ∀ (l : List V) (ks : List Nm), (textKs l ks).length = l.length
  | [], _ => rfl
  | _ :: l, ks => by simp [textKs, textKs_length l]
theorem partsT_len (d : VD) : (partsT d).length = d.list.length := by
  unfold partsT
  split
  · rw [textKs_length, List.length_map]
  · rw [textsV_map, List.length_map, List.length_map]
/-- what text holds while it goes over the list -/
structure TB (w W : World) (d : VD) (a : Option Addr) (k c : Nat) : Prop where
  val : Blk W w.heap.size #[.int .i64 d.sort, .bool d.on, .int .i64 d.n, .string ⟨d.text.toArray⟩, .slice d.a d.list.length d.c, .slice d.ka d.keys.length d.kc] 36
  own : Own W (w.heap.size + 1) 9 1 a k c (((partsT d).take k).map strV)
  below : Below w.heap.size w W
theorem TB.ext {w W W' : World} {d : VD} {a : Option Addr} {k c : Nat} (h : TB w W d a k c) (hb : Below W.heap.size W W') : TB w W' d a k c := ⟨h.val.ext hb, h.own.ext hb, h.below.trans (hb.mono h.below.size)⟩
theorem TB.push {w W W' : World} {d : VD} {a a' : Option Addr} {k c c' : Nat} (h : TB w W d a k c) {x : Nm} (hx : (partsT d)[k]? = some x) {o : Obj} (ho : Own W' (w.heap.size + 1) 9 1 a' (k + 1) c' (((partsT d).take k).map strV ++ [strV x])) (hg : (W.alloc o).grownBy W' (rowOf a c)) : TB w W' d a' (k + 1) c' :=
  ⟨(h.val.alloc o).grown hg (h.own.apart (by omega)), by rw [take_one hx, List.map_append]; exact ho, (h.below.alloc h.below.size o).grown hg (by have := h.below.size; simp; omega) (fun j hj => by have := h.own.rowBase (Nat.le_refl _) j hj; omega)⟩
/-- text is told of any value -/
def TextAt (d : VD) : Prop := ∀ w : World, Glob w → ValAt w (fun _ => True) d → formed d.v = true → sizeV d.v ≤ 1048576 → Calls Tryz.prog 50 #[d.val] w (fun e w' => e = .returned (.string ⟨(textV d.v).toArray⟩) ∧ Below w.heap.size w w')

theorem formed_head {d : VD} (h : formed d.v = true) : headOk d.sort d.on d.n d.text d.list.length d.keys = true ∧ ∀ x ∈ d.list, formed x.v = true := by
  rw [VD.v_eq, formed, Bool.and_eq_true, formeds_all, List.all_eq_true, List.length_map] at h
  exact ⟨h.1, fun x hx => h.2 _ (List.mem_map_of_mem hx)⟩
theorem headOk_n {s : Int} {o : Bool} {n : Int} {t : Nm} {m : Nat} {ks : List Nm} (h : headOk s o n t m ks = true) : -9007199254740992 ≤ n ∧ n ≤ 9007199254740992 ∧ (s = 5 → ks.length = m) := by
  unfold headOk at h
  simp only [Bool.and_eq_true, decide_eq_true_eq] at h
  refine ⟨h.1.1.1.1.2, h.1.1.1.2, fun h5 => ?_⟩
  have := h.2
  rw [if_pos h5] at this
  simpa using this
set_option maxHeartbeats 4000000 in
theorem text_leaf (d : VD) (w : World) (hG : Glob w) (hf : formed d.v = true) (hs : sizeV d.v ≤ 1048576) (h4 : d.sort < 4) : Calls Tryz.prog 50 #[d.val] w (fun e w' => e = .returned (.string ⟨(textV d.v).toArray⟩) ∧ Below w.heap.size w w') := by
  obtain ⟨hh, -⟩ := formed_head hf
  have hsrt := headOk_sort hh
  obtain ⟨hn1, hn2, -⟩ := headOk_n hh
  have hsz : sizeV (.mk d.sort d.on d.n d.text (d.list.map VD.v) d.keys) ≤ 1048576 := by rw [← VD.v_eq]; exact hs
  obtain ⟨s1, -⟩ := size_parts hsz
  have ht : textV d.v = if d.sort = 1 then (if d.on then trueL else falseL) else if d.sort = 2 then Lib.itoa d.n else if d.sort = 3 then quoted d.text else nullL := by
    rw [VD.v_eq, textV]
    by_cases a : d.sort = 1
    · simp [a]
    by_cases b : d.sort = 2
    · simp [b]
    by_cases c : d.sort = 3
    · simp [c]
    have : d.sort = 0 := by omega
    simp [this]
  generalize textV d.v = T at *
  have hb := below_a1 w (.cells #[.int .i64 d.sort, .bool d.on, .int .i64 d.n, .string ⟨d.text.toArray⟩, .slice d.a d.list.length d.c, .slice d.ka d.keys.length d.kc] 36)
  have hg0 := hG.ext hb
  have HB := Lib.hid hb
  have HG := Lib.hid hg0
  have HT := Lib.hid ht
  have HN := Lib.hid (And.intro hn1 hn2)
  rw [VD.val6]
  generalize hsd : d.sort = sd at *
  clear hb hg0 hG ht hh hsz hs hf hn1 hn2 hsd
  by_cases a1 : sd = 1
  · subst a1
    have Ht : Hid (T = if d.on then trueL else falseL) := Lib.hid (by rw [HT.out]; rfl)
    clear HT
    go_enter Tryz.func50, Tryz.ntmps50
    go_wp2_with fail
    refine (Tryz.strconv_FormatBool d.on _).mono ?_
    rintro e w2 ⟨rfl, rfl⟩
    go_wp2
    go_ret
    exact ⟨by rw [Ht.out]; cases d.on <;> rfl, HB.out⟩
  by_cases a2 : sd = 2
  · subst a2
    have Ht : Hid (T = Lib.itoa d.n) := Lib.hid (by rw [HT.out]; rfl)
    clear HT
    go_enter Tryz.func50, Tryz.ntmps50
    go_wp2_with fail
    refine (itoa_any d.n _ HG.out (by have := HN.out; omega)).mono ?_
    rintro e w2 ⟨rfl, hb2⟩
    have HB2 := Lib.hid (HB.out.trans (hb2.mono HB.out.size))
    clear hb2
    go_wp2
    go_ret
    exact ⟨by rw [Ht.out]; rfl, HB2.out⟩
  by_cases a3 : sd = 3
  · subst a3
    have Ht : Hid (T = quoted d.text) := Lib.hid (by rw [HT.out]; rfl)
    clear HT
    go_enter Tryz.func50, Tryz.ntmps50
    go_wp2_with fail
    refine (quoted_any d.text _ (by omega)).mono ?_
    rintro e w2 ⟨rfl, hb2⟩
    have HB2 := Lib.hid (HB.out.trans (hb2.mono HB.out.size))
    clear hb2
    go_wp2
    go_ret
    exact ⟨by rw [Ht.out]; rfl, HB2.out⟩
  obtain rfl : sd = 0 := by omega
  have Ht : Hid (T = nullL) := Lib.hid (by rw [HT.out]; rfl)
  clear HT a1 a2 a3
  go_enter Tryz.func50, Tryz.ntmps50
  go_wp2
  go_ret
  exact ⟨by rw [Ht.out]; rfl, HB.out⟩
end Go.Proofs.YthnbeebilomchaaGreatDoor

namespace Go.Proofs.YthnbeebilomchaaGreatDoor
open Go Go.RowKit

theorem VD.tmp (d : VD) : d.val = .agg #[.int .i64 d.sort, .bool d.on, .int .i64 d.n, .string ⟨d.text.toArray⟩, .slice d.a d.list.length d.c, .slice d.ka d.keys.length d.kc] := VD.val6 d

set_option maxHeartbeats 4000000 in
theorem text_list (d : VD) (w : World) (hG : Glob w) (hv : ValAt w (fun _ => True) d) (hf : formed d.v = true) (hs : sizeV d.v ≤ 1048576) (h4 : d.sort = 4) (IH : ∀ x ∈ d.list, TextAt x) : Calls Tryz.prog 50 #[d.val] w (fun e w' => e = .returned (.string ⟨(textV d.v).toArray⟩) ∧ Below w.heap.size w w') := by
  have htl := textV_len d.v hf
  obtain ⟨hh, hfk⟩ := formed_head hf
  obtain ⟨-, -, hn5⟩ := headOk_n hh
  have hsz : sizeV (.mk d.sort d.on d.n d.text (d.list.map VD.v) d.keys) ≤ 1048576 := by rw [← VD.v_eq]; exact hs
  obtain ⟨-, s2, s3, s4, s5⟩ := size_parts hsz
  rw [List.length_map] at s3
  have ht : textV d.v = 91 :: (commas (partsT d) ++ [93]) := by rw [VD.v_eq, textV]; unfold partsT; simp [h4]
  have hjl : (commas (partsT d)).length ≤ 140737488355328 := by
    rw [ht] at htl
    simp only [List.length_cons, List.length_append, List.length_nil] at htl
    omega
  have hpl := partsT_len d
  have HJL := Lib.hid hjl
  have HFK := Lib.hid hfk
  have HV := Lib.hid hv
  have HG := Lib.hid hG
  have S4 := Lib.hid s4
  have S5 : Hid (∀ x ∈ d.list, sizeV x.v ≤ 1048576) := Lib.hid fun x hx => s5 _ (List.mem_map_of_mem hx)
  have HI := Lib.hid IH
  have HPT : Hid (∀ (k : Nat) (x : VD), d.list[k]? = some x → (partsT d)[k]? = some (textV x.v)) := Lib.hid (by
    intro k x hx
    unfold partsT
    rw [if_neg (by omega), textsV_map, List.getElem?_map, List.getElem?_map, hx]; rfl
)
  skip
  obtain ⟨W0, hW0⟩ : ∃ W0, W0 = w.alloc (.cells #[.int .i64 4, .bool d.on, .int .i64 d.n, .string ⟨d.text.toArray⟩, .slice d.a d.list.length d.c, .slice d.ka d.keys.length d.kc] 36) := ⟨_, rfl⟩
  have HT0 : Hid (TB w W0 d none 0 0) := Lib.hid (by rw [hW0]; exact ⟨by rw [h4]; exact Blk.new rfl, Own.nil _ _ _ _, below_a1 _ _⟩)
  rw [VD.val6, h4, ht]
  obtain ⟨T, hT⟩ : ∃ T, T = commas (partsT d) := ⟨_, rfl⟩
  rw [← hT] at HJL ⊢
  have HC := Lib.hid hT
  have H4 := Lib.hid h4
  obtain ⟨ea, hea⟩ : ∃ ea, ea = d.a := ⟨_, rfl⟩
  obtain ⟨eka, heka⟩ : ∃ ea, ea = d.ka := ⟨_, rfl⟩
  obtain ⟨nk, hnk⟩ : ∃ nk, nk = d.keys.length := ⟨_, rfl⟩
  rw [← hea, ← heka, ← hnk] at hW0 ⊢
  have HEA := Lib.hid hea
  have HEK := Lib.hid heka
  have HNK := Lib.hid hnk
  clear hea heka hnk
  clear hv hG hf hs hfk hh hn5 hsz s4 s5 hjl ht htl h4 IH hT
  go_enter Tryz.func50, Tryz.ntmps50
  go_upto_region 11 with (fail)
  rw [← hW0]
  clear hW0
  obtain ⟨c0, c1, c2, c3, c4, c5⟩ := HT0.out.val.six
  rw [H4.out] at c0
  rw [← HEA.out] at c4
  rw [← HEK.out, ← HNK.out] at c5
  go_wp2_with fail
  clear c0 c1 c2 c3 c4 c5
  go_loopw [3, 29] (fun p i wr => ∃ (k : Nat) (a : Option Addr) (c : Nat), k ≤ d.list.length ∧ i = .int .i64 k ∧ p = .slice a k c ∧ Hid (TB w wr d a k c)) (fun _ i _ => d.list.length - (intOf i).toNat)
  case atStart => exact ⟨0, none, 0, Nat.zero_le _, rfl, rfl, HT0⟩
  case round =>
    obtain ⟨k, a, c, hk, rfl, rfl, HT⟩ := hrel
    by_cases hlt : k < d.list.length
    · obtain ⟨x, hx⟩ := get_some hlt
      have hxm : x ∈ d.list := List.mem_of_getElem? hx
      have hva := HV.out.ext HT.out.below
      obtain ⟨b, off, hda, v0, v1, v2, v3, v4, v5⟩ := val_at hva.row hx
      rw [← HEA.out] at hda
      subst hda
      unfold strV at v3
      have hin : (k : Int) < d.list.length := by omega
      have HP : Hid ((partsT d)[k]? = some (textV x.v)) := Lib.hid (HPT.out k x hx)
      have htx := fun W (hb : Below w.heap.size w W) => HI.out x hxm W (HG.out.ext hb) ((HV.out.kid x hxm).ext hb) (HFK.out x hxm) (S5.out x hxm)
      rw [VD.val6] at htx
      have HX := Lib.hid htx
      have hxl : (textV x.v).length ≤ 20971520 := by have h1 := textV_len x.v (HFK.out x hxm); have h2 := S5.out x hxm; omega
      have hws := HT.out.below.size
      have hwl := HT.out.val.lt
      have hcap := HT.out.own.le
      clear hx htx hva
      obtain ⟨c0, c1, c2, c3, c4, c5⟩ := HT.out.val.six
      rw [H4.out] at c0
      rw [← HEA.out] at c4
      rw [← HEK.out, ← HNK.out] at c5
      go_wp2_with fail
      refine (HX.out _ (HT.out.below.alloc hws _)).mono ?_
      rintro e w2 ⟨rfl, hb2⟩
      have ht2 := HT.out.ext ((below_a1 _ _).trans (hb2.mono (by simp)))
      have HT2 := Lib.hid ht2
      clear c0 c1 c2 c3 c4 c5 v0 v1 v2 v3 v4 v5 hb2 ht2 HX
      obtain ⟨c0, c1, c2, c3, c4, c5⟩ := HT2.out.val.six
      rw [H4.out] at c0
      rw [← HEA.out] at c4
      rw [← HEK.out, ← HNK.out] at c5
      generalize textV x.v = tx at *
      have hcap2 := HT2.out.own.le
      go_wp2_with (at_builtin; refine wpList_append_Own rfl _ _ 24 rfl (w.heap.size + 1) 9 _ 1 16 Tryz.underlying24 Tryz.infoStr rfl (by decide) a k c _ rfl (by exact HT2.out.own.alloc _) _ 1 1 [.string ⟨tx.toArray⟩] rfl (Row.new1 (by simp) rfl rfl) (by intro u hu; simp at hu; subst hu; rfl) (by unfold maxLen; omega) (by omega) (by have := HT2.out.val.lt; simp; omega) ?_; intro a5 c5 w5 ho5 hg5 hb5; have HT5 := Lib.hid (HT2.out.push HP.out ho5 hg5); clear ho5 hg5 hb5)
      go_roundw
      case rel => exact ⟨k + 1, a5, c5, by omega, by go_num, rfl, HT5⟩
      case measure => simp [intOf]; omega
    · obtain rfl : k = d.list.length := by omega
      obtain ⟨c0, c1, c2, c3, c4, c5⟩ := HT.out.val.six
      rw [H4.out] at c0
      rw [← HEA.out] at c4
      rw [← HEK.out, ← HNK.out] at c5
      have hown := HT.out.own
      rw [List.take_of_length_le (by omega)] at hown
      have hrow := hown.row
      have hbt := between_any 91 93 a c (partsT d) wr (by rw [hpl]; exact hrow) (by omega) (by rw [hpl]; exact hown.le) (by rw [← HC.out]; exact HJL.out)
      rw [hpl, ← HC.out] at hbt
      have HBT := Lib.hid hbt
      clear hown hrow hbt
      go_wp2_with fail
      refine HBT.out.mono ?_
      rintro e w2 ⟨rfl, hb2⟩
      have HB2 := Lib.hid (HT.out.below.trans (hb2.mono HT.out.below.size))
      clear hb2 HBT
      go_wp2
      go_ret
      exact ⟨rfl, HB2.out⟩

set_option maxHeartbeats 4000000 in
theorem text_rec (d : VD) (w : World) (hG : Glob w) (hv : ValAt w (fun _ => True) d) (hf : formed d.v = true) (hs : sizeV d.v ≤ 1048576) (h4 : d.sort = 5) (IH : ∀ x ∈ d.list, TextAt x) : Calls Tryz.prog 50 #[d.val] w (fun e w' => e = .returned (.string ⟨(textV d.v).toArray⟩) ∧ Below w.heap.size w w') := by
  have htl := textV_len d.v hf
  obtain ⟨hh, hfk⟩ := formed_head hf
  obtain ⟨-, -, hn5⟩ := headOk_n hh
  have hsz : sizeV (.mk d.sort d.on d.n d.text (d.list.map VD.v) d.keys) ≤ 1048576 := by rw [← VD.v_eq]; exact hs
  obtain ⟨-, s2, s3, s4, s5⟩ := size_parts hsz
  rw [List.length_map] at s3
  have ht : textV d.v = 123 :: (commas (partsT d) ++ [125]) := by rw [VD.v_eq, textV]; unfold partsT; simp [h4]
  have hjl : (commas (partsT d)).length ≤ 140737488355328 := by
    rw [ht] at htl
    simp only [List.length_cons, List.length_append, List.length_nil] at htl
    omega
  have hpl := partsT_len d
  have HJL := Lib.hid hjl
  have HFK := Lib.hid hfk
  have HV := Lib.hid hv
  have HG := Lib.hid hG
  have S4 := Lib.hid s4
  have S5 : Hid (∀ x ∈ d.list, sizeV x.v ≤ 1048576) := Lib.hid fun x hx => s5 _ (List.mem_map_of_mem hx)
  have HI := Lib.hid IH
  have HPT : Hid (∀ (k : Nat) (x : VD), d.list[k]? = some x → ∀ y, d.keys[k]? = some y → (partsT d)[k]? = some (quoted y ++ 58 :: textV x.v)) := Lib.hid (by
    intro k x hx y hy
    unfold partsT
    rw [if_pos h4]
    exact textKs_at _ _ k (by rw [List.getElem?_map, hx]; rfl) hy)
  have hkl := Lib.hid (hn5 h4)
  obtain ⟨W0, hW0⟩ : ∃ W0, W0 = w.alloc (.cells #[.int .i64 5, .bool d.on, .int .i64 d.n, .string ⟨d.text.toArray⟩, .slice d.a d.list.length d.c, .slice d.ka d.keys.length d.kc] 36) := ⟨_, rfl⟩
  have HT0 : Hid (TB w W0 d none 0 0) := Lib.hid (by rw [hW0]; exact ⟨by rw [h4]; exact Blk.new rfl, Own.nil _ _ _ _, below_a1 _ _⟩)
  rw [VD.val6, h4, ht]
  obtain ⟨T, hT⟩ : ∃ T, T = commas (partsT d) := ⟨_, rfl⟩
  rw [← hT] at HJL ⊢
  have HC := Lib.hid hT
  have H4 := Lib.hid h4
  obtain ⟨ea, hea⟩ : ∃ ea, ea = d.a := ⟨_, rfl⟩
  obtain ⟨eka, heka⟩ : ∃ ea, ea = d.ka := ⟨_, rfl⟩
  obtain ⟨nk, hnk⟩ : ∃ nk, nk = d.keys.length := ⟨_, rfl⟩
  rw [← hea, ← heka, ← hnk] at hW0 ⊢
  have HEA := Lib.hid hea
  have HEK := Lib.hid heka
  have HNK := Lib.hid hnk
  clear hea heka hnk
  clear hv hG hf hs hfk hh hn5 hsz s4 s5 hjl ht htl h4 IH hT
  go_enter Tryz.func50, Tryz.ntmps50
  go_upto_region 11 with (fail)
  rw [← hW0]
  clear hW0
  obtain ⟨c0, c1, c2, c3, c4, c5⟩ := HT0.out.val.six
  rw [H4.out] at c0
  rw [← HEA.out] at c4
  rw [← HEK.out, ← HNK.out] at c5
  go_wp2_with fail
  clear c0 c1 c2 c3 c4 c5
  go_loopw [3, 29] (fun p i wr => ∃ (k : Nat) (a : Option Addr) (c : Nat), k ≤ d.list.length ∧ i = .int .i64 k ∧ p = .slice a k c ∧ Hid (TB w wr d a k c)) (fun _ i _ => d.list.length - (intOf i).toNat)
  case atStart => exact ⟨0, none, 0, Nat.zero_le _, rfl, rfl, HT0⟩
  case round =>
    obtain ⟨k, a, c, hk, rfl, rfl, HT⟩ := hrel
    by_cases hlt : k < d.list.length
    · obtain ⟨x, hx⟩ := get_some hlt
      have hxm : x ∈ d.list := List.mem_of_getElem? hx
      have hva := HV.out.ext HT.out.below
      obtain ⟨b, off, hda, v0, v1, v2, v3, v4, v5⟩ := val_at hva.row hx
      rw [← HEA.out] at hda
      subst hda
      unfold strV at v3
      have hin : (k : Int) < d.list.length := by omega
      obtain ⟨y, hy⟩ := get_some (l := d.keys) (i := k) (by have := hkl.out; omega)
      have hyl := S4.out y (List.mem_of_getElem? hy)
      have Hy := Lib.hid hy
      have hin2 : (k : Int) < nk := by have := hkl.out; have := HNK.out; omega
      have HP : Hid ((partsT d)[k]? = some (quoted y ++ 58 :: textV x.v)) := Lib.hid (HPT.out k x hx y hy)
      clear hy
      have htx := fun W (hb : Below w.heap.size w W) => HI.out x hxm W (HG.out.ext hb) ((HV.out.kid x hxm).ext hb) (HFK.out x hxm) (S5.out x hxm)
      rw [VD.val6] at htx
      have HX := Lib.hid htx
      have hxl : (textV x.v).length ≤ 20971520 := by have h1 := textV_len x.v (HFK.out x hxm); have h2 := S5.out x hxm; omega
      have hws := HT.out.below.size
      have hwl := HT.out.val.lt
      have hcap := HT.out.own.le
      clear hx htx hva
      obtain ⟨c0, c1, c2, c3, c4, c5⟩ := HT.out.val.six
      rw [H4.out] at c0
      rw [← HEA.out] at c4
      rw [← HEK.out, ← HNK.out] at c5
      go_wp2_with fail
      refine (HX.out _ (HT.out.below.alloc hws _)).mono ?_
      rintro e w2 ⟨rfl, hb2⟩
      have ht2 := HT.out.ext ((below_a1 _ _).trans (hb2.mono (by simp)))
      have HT2 := Lib.hid ht2
      clear c0 c1 c2 c3 c4 c5 v0 v1 v2 v3 v4 v5 hb2 ht2 HX
      obtain ⟨c0, c1, c2, c3, c4, c5⟩ := HT2.out.val.six
      rw [H4.out] at c0
      rw [← HEA.out] at c4
      rw [← HEK.out, ← HNK.out] at c5
      generalize textV x.v = tx at *
      have hyv := (HV.out.ext HT2.out.below).krow.elem1 Hy.out
      obtain ⟨kb, koff, hka, y0⟩ := hyv
      rw [← HEK.out] at hka
      subst hka
      unfold strV at y0
      go_wp2_with fail
      refine (quoted_any y w2 (by omega)).mono ?_
      rintro e w3 ⟨rfl, hb3⟩
      have ht3 := HT2.out.ext hb3
      clear HT2
      have HT2 := Lib.hid ht3
      clear c0 c1 c2 c3 c4 c5 y0 hb3 ht3
      obtain ⟨c0, c1, c2, c3, c4, c5⟩ := HT2.out.val.six
      rw [H4.out] at c0
      rw [← HEA.out] at c4
      rw [← HEK.out, ← HNK.out] at c5
      have hql : (quoted y).length ≤ 6291458 := by have := quoted_len y; omega
      generalize quoted y = qy at *
      have hcat : (⟨qy.toArray⟩ : ByteArray) ++ (⟨#[58]⟩ : ByteArray) ++ (⟨tx.toArray⟩ : ByteArray) = ⟨(qy ++ 58 :: tx).toArray⟩ := by
        rw [show (⟨#[58]⟩ : ByteArray) = ⟨([58] : Nm).toArray⟩ from rfl, cat_nm, cat_nm, List.append_assoc]; rfl
      have HCAT := Lib.hid hcat
      clear hcat
      have hcap2 := HT2.out.own.le
      go_wp2_with (at_builtin; refine wpList_append_Own rfl _ _ 24 rfl (w.heap.size + 1) 9 _ 1 16 Tryz.underlying24 Tryz.infoStr rfl (by decide) a k c _ rfl (by exact HT2.out.own.alloc _) _ 1 1 [.string ((⟨qy.toArray⟩ : ByteArray) ++ (⟨#[58]⟩ : ByteArray) ++ (⟨tx.toArray⟩ : ByteArray))] rfl (Row.new1 (by simp) rfl rfl) (by intro u hu; simp at hu; subst hu; rfl) (by unfold maxLen; omega) (by omega) (by have := HT2.out.val.lt; simp; omega) ?_; intro a5 c5 w5 ho5 hg5 hb5; rw [HCAT.out] at ho5; have HT5 := Lib.hid (HT2.out.push HP.out ho5 hg5); clear ho5 hg5 hb5)
      go_roundw
      case rel => exact ⟨k + 1, a5, c5, by omega, by go_num, rfl, HT5⟩
      case measure => simp [intOf]; omega
    · obtain rfl : k = d.list.length := by omega
      obtain ⟨c0, c1, c2, c3, c4, c5⟩ := HT.out.val.six
      rw [H4.out] at c0
      rw [← HEA.out] at c4
      rw [← HEK.out, ← HNK.out] at c5
      have hown := HT.out.own
      rw [List.take_of_length_le (by omega)] at hown
      have hrow := hown.row
      have hbt := between_any 123 125 a c (partsT d) wr (by rw [hpl]; exact hrow) (by omega) (by rw [hpl]; exact hown.le) (by rw [← HC.out]; exact HJL.out)
      rw [hpl, ← HC.out] at hbt
      have HBT := Lib.hid hbt
      clear hown hrow hbt
      go_wp2_with fail
      refine HBT.out.mono ?_
      rintro e w2 ⟨rfl, hb2⟩
      have HB2 := Lib.hid (HT.out.below.trans (hb2.mono HT.out.below.size))
      clear hb2 HBT
      go_wp2
      go_ret
      exact ⟨rfl, HB2.out⟩

theorem text_any : ∀ d : VD, TextAt d := by
  intro d
  induction d using VD.ind with
  | h s o n t a c l ka kc ks ih =>
    intro w hG hv hf hs
    by_cases h4 : s < 4
    · exact text_leaf _ w hG hf hs h4
    · have hss := headOk_sort (formed_head hf).1
      by_cases h5 : s = 4
      · exact text_list _ w hG hv hf hs h5 ih
      · exact text_rec _ w hG hv hf hs (by have : s ≤ 5 := hss.2; show s = 5; omega) ih
end Go.Proofs.YthnbeebilomchaaGreatDoor

namespace Go.Proofs.YthnbeebilomchaaGreatDoor
open Go Go.RowKit

theorem right_form {v : V} (h : right 20 v = true) : formed v = true := by rw [right_formed, Bool.and_eq_true] at h; exact h.1
/-- what Write answers -/
def wrote (v : V) : Value := if right 20 v = true then .tuple #[.string ⟨(textV v).toArray⟩, .int .i64 0] else .tuple #[.string { data := #[] }, .int .i64 21]
set_option maxHeartbeats 1000000 in
theorem vwrite_any (d : VD) (w : World) (hG : Glob w) (hv : ValAt w (fun _ => True) d) (hs : sizeV d.v ≤ 1048576) : Calls Tryz.prog 26 #[d.val] w (fun e w' => e = .returned (wrote d.v) ∧ Below w.heap.size w w') := by
  obtain ⟨W0, hW0⟩ : ∃ W0, W0 = w.alloc (.cells #[.int .i64 d.sort, .bool d.on, .int .i64 d.n, .string ⟨d.text.toArray⟩, .slice d.a d.list.length d.c, .slice d.ka d.keys.length d.kc] 36) := ⟨_, rfl⟩
  have hb : Below w.heap.size w W0 := by rw [hW0]; exact below_a1 _ _
  have hbl : Blk W0 w.heap.size #[.int .i64 d.sort, .bool d.on, .int .i64 d.n, .string ⟨d.text.toArray⟩, .slice d.a d.list.length d.c, .slice d.ka d.keys.length d.kc] 36 := by rw [hW0]; exact Blk.new rfl
  have h1 := vright_any d W0 (hG.ext hb) (hv.ext hb) hs
  rw [VD.val6] at h1 ⊢
  have H1 := Lib.hid h1
  have HB := Lib.hid hb
  have HBL := Lib.hid hbl
  have HG := Lib.hid hG
  have HV := Lib.hid hv
  clear h1 hb hG hv hbl
  go_enter Tryz.func26, Tryz.ntmps26
  go_wp2_with fail
  rw [← hW0]
  clear hW0
  refine H1.out.mono ?_
  rintro e W1 ⟨rfl, hb1⟩
  have HB1 := Lib.hid (HB.out.trans (hb1.mono HB.out.size))
  obtain ⟨c0, c1, c2, c3, c4, c5⟩ := (HBL.out.ext hb1).six
  clear hb1 H1
  cases hr : right 20 d.v with
  | false =>
    have HT : Hid (wrote d.v = .tuple #[.string { data := #[] }, .int .i64 21]) := Lib.hid (by unfold wrote; rw [hr]; rfl)
    clear hr
    go_wp2
    exact bodyPost_ret (by simp [results, Tryz.results26, go_sem]; rfl) rfl ⟨by rw [HT.out], HB1.out⟩
  | true =>
    have HT : Hid (wrote d.v = .tuple #[.string ⟨(textV d.v).toArray⟩, .int .i64 0]) := Lib.hid (by unfold wrote; rw [hr]; rfl)
    have h2 := text_any d W1 (HG.out.ext HB1.out) (HV.out.ext HB1.out) (right_form hr) hs
    rw [VD.val6] at h2
    have H2 := Lib.hid h2
    clear h2 hr
    go_wp2_with fail
    refine H2.out.mono ?_
    rintro e W2 ⟨rfl, hb2⟩
    have HB2 := Lib.hid (HB1.out.trans (hb2.mono HB1.out.size))
    clear hb2 H2
    go_wp2
    exact bodyPost_ret (by simp [results, Tryz.results26, go_sem]; rfl) rfl ⟨by rw [HT.out], HB2.out⟩

/-- where a name stands first, or -1 -/
def indexI (x : Nm) (ks : List Nm) : Int := match indexK x ks with | some i => (i : Int) | none => -1
theorem indexI_some {x : Nm} {ks : List Nm} {i : Nat} (h : indexK x ks = some i) : indexI x ks = i := by unfold indexI; rw [h]
theorem indexI_none {x : Nm} {ks : List Nm} (h : indexK x ks = none) : indexI x ks = -1 := by unfold indexI; rw [h]
set_option maxHeartbeats 1000000 in
theorem sindex_any (a : Option Addr) (c : Nat) (ks : List Nm) (x : Nm) (w : World) (h : Row w 1 a ks.length (ks.map strV)) (hl : ks.length ≤ 1048576) :
    Calls Tryz.prog 46 #[.slice a ks.length c, .string ⟨x.toArray⟩] w (fun e w' => e = .returned (.int .i64 (indexI x ks)) ∧ Below w.heap.size w w') := by
  have HA := Lib.hid h
  clear h
  have hind : ∀ k, k ≤ ks.length → (∀ j, j < k → ks[j]? ≠ some x) → (ks[k]? = some x → indexK x ks = some k) ∧ (k = ks.length → indexK x ks = none) := by
    intro k hk hf
    constructor
    · intro hx; exact indexK_first hx hf
    · intro he
      cases hi : indexK x ks with
      | none => rfl
      | some i =>
        have := indexK_some hi
        have hil : i < ks.length := (List.getElem?_eq_some_iff.1 this.1).1
        exact absurd this.1 (hf i (by omega))
  have HI := Lib.hid hind
  clear hind
  go_enter Tryz.func46, Tryz.ntmps46
  go_wp2_with fail
  go_loopw [4, 8] (fun _ i wq => ∃ k : Nat, k ≤ ks.length ∧ i = .int .i64 k ∧ Hid (Below w.heap.size w wq ∧ ∀ j, j < k → ks[j]? ≠ some x)) (fun _ i _ => ks.length - (intOf i).toNat)
  case atStart => exact ⟨0, Nat.zero_le _, rfl, Lib.hid ⟨Below.refl _ _, fun j h => by omega⟩⟩
  case round =>
    obtain ⟨k, hk, rfl, hq⟩ := hrel
    by_cases hlt : k < ks.length
    · obtain ⟨y, hy⟩ := get_some hlt
      obtain ⟨ab, ao, rfl, v1⟩ := (HA.out.ext hq.out.1).elem1 hy
      have Hy := Lib.hid hy
      have hkl : (k : Int) < ks.length := by omega
      have u1 : wr.cell? ⟨ab, ao + k, none⟩ = some (.string ⟨y.toArray⟩) := v1
      clear hy v1
      by_cases hxy : x = y
      · have hne : (x == y) = true := by simpa using hxy
        have Hi : Hid (indexI x ks = k) := Lib.hid (indexI_some ((HI.out k hk hq.out.2).1 (by rw [hxy]; exact Hy.out)))
        clear hxy
        go_wp2
        go_ret
        exact ⟨by rw [Hi.out]; rfl, hq.out.1⟩
      · have hne : (x == y) = false := by simpa using hxy
        have Hxy := Lib.hid hxy
        clear hxy
        go_wp2
        go_roundw
        case rel =>
          refine ⟨k + 1, by omega, by go_num, Lib.hid ⟨hq.out.1, fun j hj => ?_⟩⟩
          rcases Nat.lt_or_ge j k with h | h
          · exact hq.out.2 j h
          · obtain rfl : j = k := by omega
            rw [Hy.out]; intro e; exact Hxy.out (Option.some.inj e).symm
        case measure => simp [intOf]; omega
    · obtain rfl : k = ks.length := by omega
      have Hi : Hid (indexI x ks = -1) := Lib.hid (indexI_none ((HI.out _ (Nat.le_refl _) hq.out.2).2 rfl))
      go_wp2
      go_ret
      exact ⟨by rw [Hi.out]; rfl, hq.out.1⟩
end Go.Proofs.YthnbeebilomchaaGreatDoor

namespace Go.Proofs.YthnbeebilomchaaGreatDoor
open Go Go.RowKit

structure GB (w W : World) (e : VD) : Prop where
  val : Blk W w.heap.size #[.int .i64 e.sort, .bool e.on, .int .i64 e.n, .string ⟨e.text.toArray⟩, .slice e.a e.list.length e.c, .slice e.ka e.keys.length e.kc] 36
  res : Blk W (w.heap.size + 1) zeroV 36
  below : Below w.heap.size w W
theorem GB.ext {w W W' : World} {e : VD} (h : GB w W e) (hb : Below W.heap.size W W') : GB w W' e := ⟨h.val.ext hb, h.res.ext hb, h.below.trans (hb.mono h.below.size)⟩
theorem stepV_at (e : VD) (x : Nm) : (∃ i y, e.sort = 5 ∧ indexI x e.keys = (i : Nat) ∧ e.list[i]? = some y ∧ stepV e.v x = some y.v) ∨ (stepV e.v x = none ∧ (e.sort ≠ 5 ∨ indexI x e.keys < 0 ∨ (e.list.length : Int) ≤ indexI x e.keys)) := by
  have h : stepV e.v x = if e.sort = 5 then (indexK x e.keys).bind fun i => (e.list.map VD.v)[i]? else none := by unfold stepV; rw [VD.v_eq]; rfl
  rw [h]
  by_cases h5 : e.sort = 5
  · rw [if_pos h5]
    cases hi : indexK x e.keys with
    | none => exact .inr ⟨rfl, .inr (.inl (by rw [indexI_none hi]; omega))⟩
    | some i =>
      rw [indexI_some hi, Option.bind_some, List.getElem?_map]
      cases hy : e.list[i]? with
      | none => exact .inr ⟨rfl, .inr (.inr (by have := List.getElem?_eq_none_iff.1 hy; omega))⟩
      | some y => exact .inl ⟨i, y, h5, rfl, hy, rfl⟩
  · rw [if_neg h5]; exact .inr ⟨rfl, .inl h5⟩
theorem getV_step (v : V) (p : List Nm) {k : Nat} {x : Nm} (h : p[k]? = some x) : getV v (p.drop k) = match stepV v x with | none => none | some y => getV y (p.drop (k + 1)) := by
  have hk := (List.getElem?_eq_some_iff.1 h)
  obtain ⟨hk, hx⟩ := hk
  first | (rw [List.drop_eq_getElem_cons hk, hx, getV]; done) | (rw [List.drop_eq_getElem_cons hk, hx, getV]; cases stepV v x <;> rfl)
/-- what Get answers -/
def GetP (w : World) (P : Nat → Prop) (r : Option V) (e : Ending) (w' : World) : Prop :=
  Below w.heap.size w w' ∧ match r with
  | none => e = .returned (.tuple #[(VD.mk 0 false 0 [] none 0 [] none 0 []).val, .bool false])
  | some v => ∃ x, e = .returned (.tuple #[VD.val x, .bool true]) ∧ x.v = v ∧ ValAt w P x
theorem get_end {W : World} {tm : Array Value} {R : Ending → World → Prop} {g : Nat} {u0 u1 u2 u3 u4 u5 : Value} {k : Bool} (h2 : tm.getD 4 undef = .pointer (some ⟨g, 0, none⟩)) (h3 : tm.getD 5 undef = .bool k) (hB : Blk W g #[u0, u1, u2, u3, u4, u5] 36)
    (hR : R (.returned (.tuple #[.agg #[u0, u1, u2, u3, u4, u5], .bool k])) W) : bodyPost Tryz.prog Tryz.f44 R .ret { tmps := tm, defers := [] } W := by
  have d0 := hB.cell 0
  have d1 := hB.cell 1
  have d2 := hB.cell 2
  have d3 := hB.cell 3
  have d4 := hB.cell 4
  have d5 := hB.cell 5
  simp only [List.getElem?_toArray, List.getElem?_cons_zero, List.getElem?_cons_succ] at d0 d1 d2 d3 d4 d5
  rw [Array.getD_eq_getD_getElem?] at h2 h3
  refine bodyPost_ret (v := .tuple #[.agg #[u0, u1, u2, u3, u4, u5], .bool k]) ?_ rfl hR
  simp [results, Tryz.results44, go_sem, h2, h3, d0, d1, d2, d3, d4, d5]
theorem getP_none {w W : World} {P : Nat → Prop} {r : Option V} (h : r = none) (hb : Below w.heap.size w W) : GetP w P r (.returned (.tuple #[.agg #[.int .i64 0, .bool false, .int .i64 0, .string { data := #[] }, .slice none 0 0, .slice none 0 0], .bool false])) W := by
  subst h; exact ⟨hb, rfl⟩
set_option maxHeartbeats 2000000 in
theorem get_anyP (P : Nat → Prop) (d : VD) (pa : Option Addr) (pc : Nat) (p : List Nm) (w : World) (hv : ValAt w P d) (hp : Row w 1 pa p.length (p.map strV)) (hl : p.length ≤ 1048576) (hs : sizeV d.v ≤ 1048576) :
    Calls Tryz.prog 44 #[d.val, .slice pa p.length pc] w (GetP w P (getV d.v p)) := by
  obtain ⟨W0, hW0⟩ : ∃ W0, W0 = (w.alloc (.cells #[.int .i64 d.sort, .bool d.on, .int .i64 d.n, .string ⟨d.text.toArray⟩, .slice d.a d.list.length d.c, .slice d.ka d.keys.length d.kc] 36)).alloc (.cells #[.int .i64 0, .bool false, .int .i64 0, .string { data := #[] }, .slice none 0 0, .slice none 0 0] 36) := ⟨_, rfl⟩
  have G0 : Hid (GB w W0 d) := Lib.hid (by rw [hW0]; exact ⟨(Blk.new rfl).alloc _, Blk.new (by simp), (below_a1 w _).alloc (by simp) _⟩)
  have HV := Lib.hid hv
  have HP := Lib.hid hp
  have HS := Lib.hid hs
  rw [VD.val6]
  obtain ⟨res, hres⟩ : ∃ r, r = getV d.v p := ⟨_, rfl⟩
  rw [← hres]
  have HRES := Lib.hid hres
  clear hv hp hs hres
  go_enter Tryz.func44, Tryz.ntmps44
  go_upto_region 1 with (fail)
  rw [← hW0]
  clear hW0
  go_wp2_with fail
  go_loopw [5, 11] (fun _ i wr => ∃ (k : Nat) (e : VD), k ≤ p.length ∧ i = .int .i64 k ∧ Hid (GB w wr e) ∧ Hid (ValAt w P e ∧ sizeV e.v ≤ 1048576) ∧ Hid (res = getV e.v (p.drop k))) (fun _ i _ => p.length - (intOf i).toNat)
  case atStart => exact ⟨0, d, Nat.zero_le _, rfl, G0, Lib.hid ⟨HV.out, HS.out⟩, HRES⟩
  case round =>
    obtain ⟨k, e, hk, rfl, hg, hve, hr⟩ := hrel
    by_cases hlt : k < p.length
    · obtain ⟨x, hx⟩ := get_some hlt
      have hgs := getV_step e.v p hx
      obtain ⟨pb, po, rfl, u0⟩ := (HP.out.ext hg.out.below).elem1 hx
      unfold strV at u0
      have hkl : (k : Int) < p.length := by omega
      have hsz : sizeV (.mk e.sort e.on e.n e.text (e.list.map VD.v) e.keys) ≤ 1048576 := by rw [← VD.v_eq]; exact hve.out.2
      obtain ⟨-, s2, s3, -, s5⟩ := size_parts hsz
      rw [List.length_map] at s3
      have S5 := Lib.hid s5
      obtain ⟨c0, c1, c2, c3, c4, c5⟩ := hg.out.val.six
      have Hgs := Lib.hid hgs
      have hidx := sindex_any e.ka e.kc e.keys x wr (hve.out.1.ext hg.out.below).krow s2
      have HIDX := Lib.hid hidx
      have hst := stepV_at e x
      generalize indexI x e.keys = i at *
      have HST := Lib.hid hst
      clear hx hgs s5 hsz hidx hst
      go_wp2_with fail
      refine HIDX.out.mono ?_
      rintro r w2 ⟨rfl, hb2⟩
      have hg2 := hg.out.ext hb2
      have G2 := Lib.hid hg2
      clear hb2 c0 c1 c2 c3 c4 c5 HIDX hg2 u0
      obtain ⟨c0, c1, c2, c3, c4, c5⟩ := G2.out.val.six
      have f0 := G2.out.val.free 0
      have f1 := G2.out.val.free 1
      have f2 := G2.out.val.free 2
      have f3 := G2.out.val.free 3
      have f4 := G2.out.val.free 4
      have f5 := G2.out.val.free 5
      have q0 := G2.out.res.cell 0
      have q1 := G2.out.res.cell 1
      have q2 := G2.out.res.cell 2
      have q3 := G2.out.res.cell 3
      have q4 := G2.out.res.cell 4
      have q5 := G2.out.res.cell 5
      have g0 := G2.out.res.free 0
      have g1 := G2.out.res.free 1
      have g2 := G2.out.res.free 2
      have g3 := G2.out.res.free 3
      have g4 := G2.out.res.free 4
      have g5 := G2.out.res.free 5
      unfold zeroV at q0 q1 q2 q3 q4 q5
      simp only [List.getElem?_toArray, List.getElem?_cons_zero, List.getElem?_cons_succ] at q0 q1 q2 q3 q4 q5
      rcases HST.out with ⟨j, y, h5, rfl, hy, hsv⟩ | ⟨hno, hwhy⟩
      · have hjl : j < e.list.length := (List.getElem?_eq_some_iff.1 hy).1
        have hji : (j : Int) < e.list.length := by omega
        obtain ⟨b, off, hea, v0, v1, v2, v3, v4, v5⟩ := val_at (hve.out.1.ext G2.out.below).row hy
        unfold strV at v3
        rw [hea] at c4
        have hym : y ∈ e.list := List.mem_of_getElem? hy
        have Hy : Hid (ValAt w P y ∧ sizeV y.v ≤ 1048576) := Lib.hid ⟨hve.out.1.kid y hym, S5.out _ (List.mem_map_of_mem hym)⟩
        have Hr : Hid (res = getV y.v (p.drop (k + 1))) := Lib.hid (by rw [hr.out, Hgs.out, hsv])
        clear hy hsv
        go_upto_region 8 with (fail)
        have hg3 : GB w (put6 w2 w.heap.size 0 (.int .i64 y.sort) (.bool y.on) (.int .i64 y.n) (.string ⟨y.text.toArray⟩) (.slice y.a y.list.length y.c) (.slice y.ka y.keys.length y.kc)) y :=
          ⟨store6_val y G2.out.val, G2.out.res.other6 (by omega), put6_below (o := 0) G2.out.below (Nat.le_refl _)⟩
        obtain ⟨W3, hW3⟩ : ∃ W3, W3 = put6 w2 w.heap.size 0 (.int .i64 y.sort) (.bool y.on) (.int .i64 y.n) (.string ⟨y.text.toArray⟩) (.slice y.a y.list.length y.c) (.slice y.ka y.keys.length y.kc) := ⟨_, rfl⟩
        rw [← hW3] at hg3
        have G3 := Lib.hid hg3
        unfold put6 at hW3
        simp only [Nat.zero_add] at hW3
        rw [← hW3]
        clear hg3 hW3 c0 c1 c2 c3 c4 c5 f0 f1 f2 f3 f4 f5 q0 q1 q2 q3 q4 q5 g0 g1 g2 g3 g4 g5 v0 v1 v2 v3 v4 v5
        go_wp2
        go_roundw
        case rel => exact ⟨k + 1, y, by omega, by go_num, G3, Hy, Hr⟩
        case measure => simp [intOf]; omega
      · have Hno : Hid (res = none) := Lib.hid (by rw [hr.out, Hgs.out, hno])
        clear hno
        rcases hwhy with h5 | h5 | h5
        · go_wp2
          refine get_end (g := w.heap.size + 1) rfl rfl (store6 G2.out.res) ?_
          exact getP_none Hno.out (put6_below (o := 0) G2.out.below (by omega))
        · by_cases h55 : e.sort = 5
          · go_wp2
            refine get_end (g := w.heap.size + 1) rfl rfl (store6 G2.out.res) ?_
            exact getP_none Hno.out (put6_below (o := 0) G2.out.below (by omega))
          · go_wp2
            refine get_end (g := w.heap.size + 1) rfl rfl (store6 G2.out.res) ?_
            exact getP_none Hno.out (put6_below (o := 0) G2.out.below (by omega))
        · have hi0 : 0 ≤ i := by omega
          by_cases h55 : e.sort = 5
          · go_wp2
            refine get_end (g := w.heap.size + 1) rfl rfl (store6 G2.out.res) ?_
            exact getP_none Hno.out (put6_below (o := 0) G2.out.below (by omega))
          · go_wp2
            refine get_end (g := w.heap.size + 1) rfl rfl (store6 G2.out.res) ?_
            exact getP_none Hno.out (put6_below (o := 0) G2.out.below (by omega))
    · obtain rfl : k = p.length := by omega
      have G2 := hg
      obtain ⟨c0, c1, c2, c3, c4, c5⟩ := G2.out.val.six
      have q0 := G2.out.res.cell 0
      have q1 := G2.out.res.cell 1
      have q2 := G2.out.res.cell 2
      have q3 := G2.out.res.cell 3
      have q4 := G2.out.res.cell 4
      have q5 := G2.out.res.cell 5
      have g0 := G2.out.res.free 0
      have g1 := G2.out.res.free 1
      have g2 := G2.out.res.free 2
      have g3 := G2.out.res.free 3
      have g4 := G2.out.res.free 4
      have g5 := G2.out.res.free 5
      unfold zeroV at q0 q1 q2 q3 q4 q5
      simp only [List.getElem?_toArray, List.getElem?_cons_zero, List.getElem?_cons_succ] at q0 q1 q2 q3 q4 q5
      have Hs : Hid (res = some e.v) := Lib.hid (by rw [hr.out, List.drop_length]; rfl)
      go_wp2
      refine get_end (g := w.heap.size + 1) rfl rfl (store6 G2.out.res) ?_
      refine ⟨put6_below (o := 0) G2.out.below (by omega), ?_⟩
      rw [Hs.out]
      exact ⟨e, by rw [VD.val6], rfl, hve.out.1⟩
end Go.Proofs.YthnbeebilomchaaGreatDoor

namespace Go.Proofs.YthnbeebilomchaaGreatDoor
open Go Go.RowKit

theorem readE_ok {w w' : World} {v : V} {r : Nm} {e : Ending} (h : ReadE w (.ok v r) e w') : ∃ d : VD, e = .returned (.tuple #[.agg #[.int .i64 d.sort, .bool d.on, .int .i64 d.n, .string ⟨d.text.toArray⟩, .slice d.a d.list.length d.c, .slice d.ka d.keys.length d.kc], .int .i64 0]) ∧ d.v = v ∧ ValAt w' (fun _ => True) d ∧ Below w.heap.size w w' := by
  obtain ⟨hb, d, he, hv, ha⟩ := h
  rw [VD.val6] at he
  exact ⟨d, he, hv, ha.mono fun _ _ _ => trivial, hb⟩
theorem readE_err {w w' : World} {k : Int} {e : Ending} (h : ReadE w (.err k) e w') : e = .returned (.tuple #[.agg #[.int .i64 0, .bool false, .int .i64 0, .string { data := #[] }, .slice none 0 0, .slice none 0 0], .int .i64 k]) ∧ (k = 11 ∨ k = 21 ∨ k = 22) ∧ Below w.heap.size w w' := ⟨h.2.2, h.2.1, h.1⟩
end Go.Proofs.YthnbeebilomchaaGreatDoor

namespace Go.Proofs.YthnbeebilomchaaGreatDoor
open Go Go.RowKit

/-- how large keys are -/
def keysN (l : List Nm) : Nat := (l.map fun k => 1 + k.length).sum
theorem keysN_take {l : List Nm} {i : Nat} {x : Nm} (hx : l[i]? = some x) : keysN (l.take (i + 1)) = keysN (l.take i) + (1 + x.length) := by
  unfold keysN; rw [List.take_add_one, hx, Option.toList_some, List.map_append, List.sum_append]; simp
theorem keysN_le (l : List Nm) (i : Nat) : keysN (l.take i) ≤ keysN l := by
  unfold keysN
  conv => rhs; rw [← List.take_append_drop i l, List.map_append, List.sum_append]
  omega
theorem sizesV_take {l : List VD} {i : Nat} {x : VD} (hx : l[i]? = some x) : sizesV ((l.take (i + 1)).map VD.v) = sizesV ((l.take i).map VD.v) + sizeV x.v := by
  rw [List.take_add_one, hx, Option.toList_some, List.map_append, sizesV_app]; simp [sizesV]
theorem sizesV_le (l : List VD) (i : Nat) : sizesV ((l.take i).map VD.v) ≤ sizesV (l.map VD.v) := by
  conv => rhs; rw [← List.take_append_drop i l, List.map_append, sizesV_app]
  omega
theorem sizeV_eq (d : VD) : sizeV d.v = 1 + d.text.length + keysN d.keys + sizesV (d.list.map VD.v) := by first | (rw [VD.v_eq, sizeV]; done) | (rw [VD.v_eq, sizeV]; rfl)
/-- what six cells of a value of any such type hold -/
theorem Blk.sixT {w : World} {g : Nat} {v0 v1 v2 v3 v4 v5 : Value} {T : TypeId} (h : Blk w g #[v0, v1, v2, v3, v4, v5] T) : w.cell? ⟨g, 0, none⟩ = some v0 ∧ w.cell? ⟨g, 1, none⟩ = some v1 ∧ w.cell? ⟨g, 2, none⟩ = some v2 ∧ w.cell? ⟨g, 3, none⟩ = some v3 ∧ w.cell? ⟨g, 4, none⟩ = some v4 ∧ w.cell? ⟨g, 5, none⟩ = some v5 :=
  ⟨h.cell 0, h.cell 1, h.cell 2, h.cell 3, h.cell 4, h.cell 5⟩
/-- how large: told up to 400 -/
def SizE (w : World) (s : Nat) (e : Ending) (w' : World) : Prop := ∃ m : Nat, e = .returned (.int .i64 m) ∧ m ≤ s ∧ (m ≤ 400 → m = s) ∧ Below w.heap.size w w'
theorem keysN_len (l : List Nm) : l.length ≤ keysN l := by
  unfold keysN
  induction l with
  | nil => simp
  | cons a l ih => simp only [List.map_cons, List.sum_cons, List.length_cons]; omega

set_option maxHeartbeats 4000000 in
theorem size_any (d : VD) : ∀ (W : World), ValAt W (fun _ => True) d → sizeV d.v ≤ 1048576 → Calls Tryz.prog 13 #[d.val] W (SizE W (sizeV d.v)) := by
  induction d using VD.ind with
  | h s o n t a c ks ka kc keys ih =>
    intro W h hw
    have hwt := sizeV_eq (.mk s o n t a c ks ka kc keys)
    simp only [VD.text, VD.keys, VD.list] at hwt
    rw [hwt] at hw ⊢
    have hks : ks.length ≤ sizesV (ks.map VD.v) := by have := sizesV_len (ks.map VD.v); simpa using this
    have hkl := keysN_len keys
    have HR := Lib.hid h.row
    have HKR := Lib.hid h.krow
    simp only [VD.keys, VD.list, VD.ka, VD.a] at HR HKR
    have HKID : Hid (∀ x ∈ ks, ValAt W (fun _ => True) x) := Lib.hid h.kid
    have HW : Hid (∀ i, sizesV ((ks.take i).map VD.v) ≤ sizesV (ks.map VD.v)) := Lib.hid (sizesV_le ks)
    have HK : Hid (∀ i, keysN (keys.take i) ≤ keysN keys) := Lib.hid (keysN_le keys)
    have HI : Hid (∀ x ∈ ks, ∀ V, ValAt V (fun _ => True) x → sizeV x.v ≤ 1048576 → Calls Tryz.prog 13 #[x.val] V (SizE V (sizeV x.v))) := Lib.hid fun x hx V hV hs => ih x hx V hV hs
    clear ih h hwt
    generalize hKN : keysN keys = KN at *
    generalize hSN : sizesV (ks.map VD.v) = SN at *
    have HKN := Lib.hid hKN
    have HSN := Lib.hid hSN
    clear hKN hSN
    unfold VD.val VD.cells strV
    go_enter Tryz.func13, Tryz.ntmps13
    go_wp2_with fail
    obtain ⟨w1, hw1⟩ : ∃ w1, w1 = W.alloc (.cells #[.int .i64 s, .bool o, .int .i64 n, .string ⟨t.toArray⟩, .slice a ks.length c, .slice ka keys.length kc] 26) := ⟨_, rfl⟩
    have hb1 : Below W.heap.size W w1 := by rw [hw1]; exact below_a1 _ _
    have HBL : Hid (Blk w1 W.heap.size #[.int .i64 s, .bool o, .int .i64 n, .string ⟨t.toArray⟩, .slice a ks.length c, .slice ka keys.length kc] 26) := Lib.hid (by rw [hw1]; exact Blk.new rfl)
    have Hb1 := Lib.hid hb1
    try rw [← hw1]
    clear hw1 hb1
    go_loopw [3, 4] (fun n i wr => ∃ (q m : Nat), q ≤ keys.length ∧ i = .int .i64 q ∧ n = .int .i64 m ∧ m = 1 + t.length + keysN (keys.take q) ∧ Hid (Below w1.heap.size w1 wr)) (fun _ i _ => keys.length - (intOf i).toNat)
    case atStart => exact ⟨0, 1 + t.length, Nat.zero_le _, rfl, by first | rfl | go_num, by simp [keysN], Lib.hid (Below.refl _ _)⟩
    case round =>
      obtain ⟨q, m, hq, rfl, rfl, hm, hb⟩ := hrel
      have hwq := HK.out q
      obtain ⟨y0, y1, y2, y3, y4, y5⟩ := (HBL.out.ext hb.out).sixT
      by_cases hlt : q < keys.length
      · obtain ⟨x, hx⟩ := get_some hlt
        have hB := Hb1.out.trans (hb.out.mono Hb1.out.size)
        obtain ⟨yb, yo, rfl, yk⟩ := (HKR.out.ext hB).elem1 hx
        unfold strV at yk
        have hkt := keysN_take hx
        have hwq1 := HK.out (q + 1)
        rw [hkt] at hwq1
        have Hkt := Lib.hid hkt
        have hmb : m + 1 + x.length ≤ 1048577 := by omega
        have HM := Lib.hid hm
        clear hkt hx hm hB
        go_wp2
        go_roundw
        case rel => exact ⟨q + 1, m + 1 + x.length, by omega, by go_num, by go_num, by rw [Hkt.out]; have := HM.out; omega, hb⟩
        case measure => simp [intOf]; omega
      · obtain rfl : q = keys.length := by omega
        rw [List.take_length] at hm hwq
        rw [HKN.out] at hm hwq
        have HB2 := Lib.hid (Hb1.out.trans (hb.out.mono Hb1.out.size))
        have HBL2 := Lib.hid (HBL.out.ext hb.out)
        clear hb hwq
        go_wp2_with fail
        clear y0 y1 y2 y3 y4 y5
        go_loopw [3, 5] (fun n i wr' => ∃ (q m : Nat), q ≤ ks.length ∧ i = .int .i64 q ∧ n = .int .i64 m ∧ m ≤ 1 + t.length + KN + sizesV ((ks.take q).map VD.v) ∧ (m ≤ 400 → m = 1 + t.length + KN + sizesV ((ks.take q).map VD.v)) ∧ Hid (Below wr.heap.size wr wr')) (fun _ i _ => ks.length - (intOf i).toNat)
        case atStart => exact ⟨0, m, Nat.zero_le _, rfl, rfl, by simp [sizesV]; omega, fun _ => by simp [sizesV]; omega, Lib.hid (Below.refl _ _)⟩
        case round =>
          obtain ⟨q2, m2, hq2, rfl, rfl, hm2, hm3, hb⟩ := hrel
          have hwq := HW.out q2
          obtain ⟨y0, y1, y2, y3, y4, y5⟩ := (HBL2.out.ext hb.out).sixT
          by_cases hlt : q2 < ks.length
          · by_cases hm4 : m2 ≤ 400
            · obtain ⟨x, hx⟩ := get_some hlt
              have hB := HB2.out.trans (hb.out.mono HB2.out.size)
              obtain ⟨b, off, rfl, c0, c1, c2, c3, c4, c5⟩ := val_at (HR.out.ext hB) hx
              have hxm := List.mem_of_getElem? hx
              have htk := sizesV_take hx
              have hwq1 := HW.out (q2 + 1)
              rw [htk] at hwq1
              have hc := HI.out x hxm _ ((HKID.out x hxm).ext hB) (by omega)
              rw [VD.val6] at hc
              have Hc := Lib.hid hc
              have Htk := Lib.hid htk
              have HM3 := Lib.hid (hm3 hm4)
              unfold strV at c3
              clear hc hx hxm htk hB hm3
              go_wp2_with fail
              refine Hc.out.mono ?_
              clear Hc
              rintro e w2 ⟨mx, rfl, hmx, hmx2, hb2⟩
              have Hb2 := Lib.hid (hb.out.trans (hb2.mono hb.out.size))
              have HMX := Lib.hid hmx2
              clear hb2 hmx2
              go_wp2
              go_roundw
              case rel => exact ⟨q2 + 1, m2 + mx, by omega, by go_num, by go_num, by rw [Htk.out]; omega, fun h => by rw [Htk.out]; have := HM3.out; have := HMX.out (by omega); omega, Hb2⟩
              case measure => simp [intOf]; omega
            · have HM3 := Lib.hid hm3
              clear hm3
              go_wp2
              go_ret
              exact ⟨m2, rfl, by omega, fun h => by omega, HB2.out.trans (hb.out.mono HB2.out.size)⟩
          · obtain rfl : q2 = ks.length := by omega
            rw [List.take_length, HSN.out] at hm2 hm3
            have HM3 := Lib.hid hm3
            clear hm3
            go_wp2
            go_ret
            exact ⟨m2, rfl, by omega, fun h => by have := HM3.out h; omega, HB2.out.trans (hb.out.mono HB2.out.size)⟩
end Go.Proofs.YthnbeebilomchaaGreatDoor

namespace Go.Proofs.YthnbeebilomchaaGreatDoor
open Go Go.RowKit

theorem Tryz.infoDoc : (Tryz.prog.info? 26).map (fun i => (i.zero, i.size, i.bytes)) = some (some (.agg #[.int .i64 0, .bool false, .int .i64 0, .string ByteArray.empty, .slice none 0 0, .slice none 0 0]), 6, 88) := by kernel_rfl
theorem cells_list (d : VD) : d.cells = [.int .i64 d.sort, .bool d.on, .int .i64 d.n, .string ⟨d.text.toArray⟩, .slice d.a d.list.length d.c, .slice d.ka d.keys.length d.kc] := by cases d; rfl
/-- what is held while a value is copied: its argument's box, the copy's, and the row made so far -/
structure OV (T TA : TypeId) (B : Nat) (w0 wr : World) (d : VD) (vs : List VD) (la : Option Addr) (lc : Nat) : Prop where
  arg : Blk wr w0.heap.size #[.int .i64 d.sort, .bool d.on, .int .i64 d.n, .string ⟨d.text.toArray⟩, .slice d.a d.list.length d.c, .slice d.ka d.keys.length d.kc] TA
  res : Blk wr (w0.heap.size + 1) #[.int .i64 0, .bool false, .int .i64 0, .string { data := #[] }, .slice none 0 0, .slice none 0 0] T
  blk : Blk wr (w0.heap.size + 2) #[.int .i64 d.sort, .bool d.on, .int .i64 d.n, .string ⟨d.text.toArray⟩, .slice la vs.length lc, .slice d.ka d.keys.length d.kc] T
  own : Own wr (w0.heap.size + 3) T 6 la vs.length lc (vs.flatMap VD.cells)
  at' : ∀ x ∈ vs, ValAt wr (fun k => (k < B ∨ w0.heap.size + 3 ≤ k) ∧ rowOf la lc ≠ some k) x
  below : Below w0.heap.size w0 wr
section
variable {T TA : TypeId} {B : Nat} {w0 wr W W7 : World} {d x : VD} {vs : List VD} {la la' : Option Addr} {lc lc' : Nat}
theorem OV.ext (h : OV T TA B w0 wr d vs la lc) (hb : Below wr.heap.size wr W) : OV T TA B w0 W d vs la lc :=
  ⟨h.arg.ext hb, h.res.ext hb, h.blk.ext hb, h.own.ext hb, fun x hx => (h.at' x hx).ext hb, h.below.trans (hb.mono h.below.size)⟩
theorem OV.push (hB : B ≤ w0.heap.size) (h : OV T TA B w0 wr d vs la lc) (hb : Below wr.heap.size wr W) (hx : ValAt W (fun k => k < B ∨ wr.heap.size ≤ k) x) (o : Obj)
    (ho : Own W7 (w0.heap.size + 3) T 6 la' (vs.length + 1) lc' ((vs ++ [x]).flatMap VD.cells)) (hg : (W.alloc o).grownBy W7 (rowOf la lc)) (hbk : rowOf la' lc' = rowOf la lc ∨ rowOf la' lc' = some (W.alloc o).heap.size) :
    OV T TA B w0 (W7.setCell ⟨w0.heap.size + 2, 4, none⟩ (.slice la' (vs.length + 1) lc')) d (vs ++ [x]) la' lc' := by
  have hws := h.blk.lt
  have hap : ∀ j, j < w0.heap.size + 3 → some j ≠ rowOf la lc := fun j hj => h.own.apart hj
  obtain ⟨k1, k2, k3⟩ := grown_from (hb.alloc hb.size o) hg hbk
  obtain ⟨x1, x2, x3⟩ := grown_from (below_a1 W o) hg hbk
  have hkk : ∀ j, j < w0.heap.size + 3 → W7.heap[j]? = wr.heap[j]? := fun j hj => k1 j (by omega) (hap j hj)
  refine ⟨?_, ?_, ?_, ?_, ?_, ?_⟩
  · exact Blk.other (p := ⟨w0.heap.size + 2, 4, none⟩) ((hkk _ (by omega)).trans h.arg) (by show w0.heap.size ≠ w0.heap.size + 2; omega) _
  · exact Blk.other (p := ⟨w0.heap.size + 2, 4, none⟩) ((hkk _ (by omega)).trans h.res) (by show w0.heap.size + 1 ≠ w0.heap.size + 2; omega) _
  · have := Blk.set (w := W7) (g := w0.heap.size + 2) ((hkk _ (by omega)).trans h.blk) 4 (.slice la' (vs.length + 1) lc')
    simpa using this
  · have := ho.setCell_other (p := ⟨w0.heap.size + 2, 4, none⟩) (blockOf_ne (b := w0.heap.size + 2) ho (by omega)) (.slice la' (vs.length + 1) lc')
    simpa using this
  · intro y hy
    have hy2 : ValAt W (fun k => ((k < B ∨ w0.heap.size + 3 ≤ k) ∧ some k ≠ rowOf la lc) ∧ rowOf la' lc' ≠ some k) y := by
      have hy3 : ValAt W (fun k => (k < B ∨ w0.heap.size + 3 ≤ k) ∧ some k ≠ rowOf la lc) y := by
        rcases List.mem_append.1 hy with hy | hy
        · exact ((h.at' y hy).ext hb).mono fun g hp _ => ⟨hp.1, fun e => hp.2 e.symm⟩
        · rw [List.mem_singleton] at hy; rw [hy]
          refine hx.mono fun g hp _ => ?_
          rcases hp with hp | hp
          · exact ⟨.inl hp, hap g (by omega)⟩
          · exact ⟨.inr (by omega), own_new h.own hp⟩
      refine hy3.mono fun g hp hlt => ⟨hp, ?_⟩
      rcases x3 with hr | ⟨j, hr, hj⟩
      · rw [hr]; exact fun e => hp.2 e.symm
      · rw [hr]; intro e; injection e; omega
    have h3 := hy2.congr (w' := W7.setCell ⟨w0.heap.size + 2, 4, none⟩ (.slice la' (vs.length + 1) lc')) fun g hp hlt => by
      rw [Below.heap_setCell W7 ⟨w0.heap.size + 2, 4, none⟩ _ g (by show g ≠ w0.heap.size + 2; omega)]
      exact x1 g hlt hp.1.2
    exact h3.mono fun g hp _ => ⟨hp.1.1, hp.2⟩
  · have h0 : Below w0.heap.size w0 (W.alloc o) := (h.below.trans (hb.mono h.below.size)).alloc (by have := h.below.size; have := hb.size; omega) _
    refine (h0.grown hg h0.size (fun j hj => ?_)).setCell (p := ⟨w0.heap.size + 2, 4, none⟩) (by show w0.heap.size ≤ w0.heap.size + 2; omega) _
    have := h.own.rowBase (Nat.le_refl _) j hj
    omega
end
/-- the world at the start: three boxes -/
def box3V (T TA : TypeId) (w : World) (d : VD) : World := ((w.alloc (.cells #[.int .i64 d.sort, .bool d.on, .int .i64 d.n, .string ⟨d.text.toArray⟩, .slice d.a d.list.length d.c, .slice d.ka d.keys.length d.kc] TA)).alloc (.cells #[.int .i64 0, .bool false, .int .i64 0, .string { data := #[] }, .slice none 0 0, .slice none 0 0] T)).alloc (.cells #[.int .i64 d.sort, .bool d.on, .int .i64 d.n, .string ⟨d.text.toArray⟩, .slice none 0 0, .slice d.ka d.keys.length d.kc] T)
theorem OV.start (T TA : TypeId) (B : Nat) (w : World) (d : VD) : OV T TA B w (box3V T TA w d) d [] none 0 := by
  unfold box3V
  refine ⟨((Blk.new rfl).alloc _).alloc _, (Blk.new (by simp)).alloc _, Blk.new (by simp), Own.nil _ _ _ _, (fun x hx => by cases hx), ((below_a1 w _).alloc (by simp) _).alloc (by simp; omega) _⟩
/-- a copy: of the same value, in blocks that were there ahead of B, or new -/
def OfE (B : Nat) (w : World) (v : V) (e : Ending) (w' : World) : Prop := ∃ d' : VD, e = .returned (.agg #[.int .i64 d'.sort, .bool d'.on, .int .i64 d'.n, .string ⟨d'.text.toArray⟩, .slice d'.a d'.list.length d'.c, .slice d'.ka d'.keys.length d'.kc]) ∧ d'.v = v ∧ ValAt w' (fun k => k < B ∨ w.heap.size ≤ k) d' ∧ Below w.heap.size w w'
theorem OV.fin {T TA : TypeId} {B : Nat} {w0 wr : World} {d : VD} {vs : List VD} {la : Option Addr} {lc : Nat} (hB : B ≤ w0.heap.size) (h : OV T TA B w0 wr d vs la lc) (hk : ValAt w0 (fun k => k < B) d) (hv : vs.map VD.v = d.list.map VD.v) :
    OfE B w0 d.v (.returned (.agg #[.int .i64 d.sort, .bool d.on, .int .i64 d.n, .string ⟨d.text.toArray⟩, .slice la vs.length lc, .slice d.ka d.keys.length d.kc]))
      (put6 wr (w0.heap.size + 1) 0 (.int .i64 d.sort) (.bool d.on) (.int .i64 d.n) (.string ⟨d.text.toArray⟩) (.slice la vs.length lc) (.slice d.ka d.keys.length d.kc)) := by
  refine ⟨VD.mk d.sort d.on d.n d.text la lc vs d.ka d.kc d.keys, rfl, by rw [VD.v, vsOf_map, hv, VD.v_eq d], ?_, put6_below (o := 0) h.below (by omega)⟩
  have hsz := h.below.size
  have hot : ∀ g, (g < B ∨ w0.heap.size + 3 ≤ g) → (put6 wr (w0.heap.size + 1) 0 (.int .i64 d.sort) (.bool d.on) (.int .i64 d.n) (.string ⟨d.text.toArray⟩) (.slice la vs.length lc) (.slice d.ka d.keys.length d.kc)).heap[g]? = wr.heap[g]? := fun g hg => put6_other (by omega)
  refine .mk ?_ ?_ (fun g _ hg => .inr (by have := h.own.base hg; omega)) (fun g h0 hg => .inl (hk.kblk g h0 hg)) (fun x hx => ?_)
  · exact h.own.row.congr fun g _ hg _ => hot g (.inr (h.own.base hg))
  · exact (hk.krow.ext h.below).congr fun g h0 hg _ => hot g (.inl (hk.kblk g (by omega) hg))
  · exact ((h.at' x hx).congr fun g hg _ => hot g hg.1).mono fun g hg _ => by omega
end Go.Proofs.YthnbeebilomchaaGreatDoor

namespace Go.Proofs.YthnbeebilomchaaGreatDoor
open Go Go.RowKit Go.ChangeAt Go.ChangeShapes Go.WideShapes Go.Deep Go.Joins

theorem bulk_cons {H : Type} (d : DataW H) (l : List (DataW H)) : Rows.uptoBulkAll (d :: l) = Rows.uptoBulk d + Rows.uptoBulkAll l := by rw [Rows.uptoBulkAll]
theorem bulk_app {H : Type} (k : List (DataW H)) : ∀ l, Rows.uptoBulkAll (l ++ k) = Rows.uptoBulkAll l + Rows.uptoBulkAll k
  | [] => by rw [List.nil_append]; simp only [Rows.uptoBulkAll]; omega
  | d :: l => by rw [List.cons_append, bulk_cons, bulk_cons, bulk_app k l, Nat.add_assoc]
theorem cells_at {w : World} {base : Nat} {a : Addr} {n : Nat} {cs : List Value} (h : w.cells? base a n = some cs) (hn : 0 < n) : a.spot = none ∧ cs.length = n ∧ ∀ j, j < n → w.cell? ⟨a.block, a.off + j, none⟩ = cs[j]? := by
  obtain ⟨-, hl, hc⟩ := World.cells?_some h
  have hsp : a.spot = none := by
    have h0 := hc 0 hn
    rw [List.getElem?_eq_getElem (by omega)] at h0
    simp only [Addr.add, if_pos] at h0
    unfold World.cell? at h0
    split at h0
    · split at h0
      · simp at h0
      · rename_i hs; simpa using hs
    · simp at h0
  refine ⟨hsp, hl, fun j hj => ?_⟩
  rw [← hc j hj]
  obtain ⟨b, o, s⟩ := a
  simp at hsp
  subst hsp
  simp only [Addr.add]
  split
  · rename_i h0; subst h0; rfl
  · rfl

/-- a slice that is read holds elements, of no more bulk than it -/
theorem open_rowB {α : Type} [Inhabited α] (f : α → List Value) (sz : Nat) (hs : 0 < sz) (he : ∀ x, (f x).length = sz) {H : Type} {enc : TypeId × Value → H} {P : Program} {w : World} {base : Nat} {spare : Nat → Bool} {held : Bool} {t e : TypeId} (ht : P.underlying t = some (.slice e)) (hc : P.cellsOf e = sz)
    (Φ : α → DataW H → Prop) (hel : ∀ n cs y, DataW.trod enc P w base spare held n e cs = some y → ∃ x, cs = f x ∧ Φ x y.1) {fuel : Nat} {v : Value} {y : DataW H × List MemPlace} (h : DataW.trod enc P w base spare held fuel t [v] = some y) :
    ∃ (a : Option Addr) (l : List α) (cap : Nat) (X : Nat → α) (D : Nat → DataW H), v = .slice a l.length cap ∧ Row w sz a l.length (l.flatMap f) ∧ l = (List.range l.length).map X ∧ (∀ i, i < l.length → Φ (X i) (D i)) ∧ Rows.uptoBulkAll ((List.range l.length).map D) + 1 ≤ Rows.uptoBulk y.1 := by
  rcases open_slice ht h with ⟨h1, h2⟩ | ⟨a, len, cap, m, n, D, Pl, h1, hb, hl, hm, hmm, h2, hx⟩
  · simp only [List.cons.injEq, and_true] at h1
    exact ⟨none, [], 0, fun _ => default, fun _ => .nil, h1, Row.nil _ _ _, rfl, by simp, by rw [h2]; simp [Rows.uptoBulkAll, Rows.uptoBulk]⟩
  · simp only [List.cons.injEq, and_true] at h1
    have hlm : len ≤ m := by subst hmm; split <;> omega
    obtain ⟨X, hX⟩ := choose_lt (α := α) (n := len) (p := fun i x => w.cells? base (a.add (i * sz)) sz = some (f x) ∧ Φ x (D i)) (fun i hi => by
      obtain ⟨cs', h3, h4⟩ := hx i (by omega)
      obtain ⟨x, rfl, hΦ⟩ := hel _ _ _ h4
      exact ⟨x, by rw [← hc]; exact h3, hΦ⟩)
    have hlen : ((List.range len).map X).length = len := by simp
    refine ⟨some a, (List.range len).map X, cap, X, D, by rw [hlen]; exact h1, ?_, by rw [hlen], fun i hi => (hX i (by rw [hlen] at hi; exact hi)).2, ?_⟩
    · rw [hlen]
      refine ⟨by rw [flat_length f sz he, hlen], fun h0 => ?_⟩
      have hlp : 0 < len := Nat.pos_of_mul_pos_right h0
      obtain ⟨hsp, -, -⟩ := cells_at (hX 0 hlp).1 hs
      have hsp0 : a.spot = none := by simpa [Addr.add] using hsp
      obtain ⟨b, o, s⟩ := a
      simp at hsp0
      subst hsp0
      refine ⟨b, o, rfl, fun j hj => ?_⟩
      have hi : j / sz < len := Nat.div_lt_of_lt_mul (by rw [Nat.mul_comm]; exact hj)
      have hr : j % sz < sz := Nat.mod_lt _ hs
      obtain ⟨-, -, hcell⟩ := cells_at (hX (j / sz) hi).1 hs
      have e1 := hcell (j % sz) hr
      have ej : j / sz * sz + j % sz = j := Nat.div_add_mod' j sz
      have e2 : (Addr.add ⟨b, o, none⟩ (j / sz * sz)) = ⟨b, o + j / sz * sz, none⟩ := by
        simp only [Addr.add]; split
        · rename_i h1; rw [h1]; rfl
        · rfl
      rw [e2] at e1
      simp only at e1
      rw [show o + j / sz * sz + j % sz = o + j by omega] at e1
      rw [e1]
      have e3 := flat_get f sz he ((List.range len).map X) (j / sz) (j % sz) (X (j / sz)) (by simp [hi]) hr
      rw [ej] at e3
      exact e3.symm
    · rw [hlen, h2]; simp only [Rows.uptoBulk]; omega

theorem flat_one (l : List Nm) : l.flatMap (fun x => [strV x]) = l.map strV := by
  induction l with
  | nil => rfl
  | cons x l ih => rw [List.flatMap_cons, ih]; rfl
theorem Tryz.cells1String : Tryz.prog.cellsOf 9 = 1 := by kernel_rfl
theorem Tryz.cells1Strs : Tryz.prog.cellsOf 24 = 1 := by kernel_rfl
theorem Tryz.cellsDoc : Tryz.prog.cellsOf 26 = 6 := by kernel_rfl
theorem Tryz.cellsSort : Tryz.prog.cellsOf 22 = 1 := by kernel_rfl
theorem Tryz.cellsBool : Tryz.prog.cellsOf 4 = 1 := by kernel_rfl
theorem Tryz.cellsInt1 : Tryz.prog.cellsOf 3 = 1 := by kernel_rfl
theorem Tryz.cellsDocs : Tryz.prog.cellsOf 23 = 1 := by kernel_rfl
theorem list6 {α : Type} {cs : List α} (h : cs.length = 6) : ∃ a b c d e f, cs = [a, b, c, d, e, f] := by
  match cs, h with
  | [a, b, c, d, e, f], _ => exact ⟨a, b, c, d, e, f, rfl⟩
section
variable {H : Type} {enc : TypeId × Value → H} {w : World} {base : Nat} {spare : Nat → Bool} {held : Bool}
theorem string_formB (n : Nat) (cs : List Value) (y : DataW H × List MemPlace) (h : DataW.trod enc Tryz.prog w base spare held n 9 cs = some y) : ∃ x : Nm, cs = [strV x] ∧ x.length + 1 ≤ Rows.uptoBulk y.1 := by
  obtain ⟨s, h1, h2, -⟩ := DataW.trod_string Tryz.underlying9 h
  exact ⟨s.data.toList, by rw [h1]; simp [strV], by rw [h2]; simp [Rows.uptoBulk]⟩
theorem keys_bulk {n : Nat} {X : Nat → Nm} {D : Nat → DataW H} (h : ∀ i, i < n → (X i).length + 1 ≤ Rows.uptoBulk (D i)) : keysN ((List.range n).map X) ≤ Rows.uptoBulkAll ((List.range n).map D) := by
  induction n with
  | zero => simp [keysN]
  | succ n ih =>
    rw [List.range_succ, List.map_append, List.map_append, bulk_app]
    have h1 := ih fun i hi => h i (by omega)
    have h2 := h n (Nat.lt_succ_self n)
    unfold keysN at h1 ⊢
    rw [List.map_append, List.sum_append]
    simp only [List.map_cons, List.map_nil, Rows.uptoBulkAll, List.sum_cons, List.sum_nil]; omega
/-- keys that come in -/
theorem open_keys {fuel : Nat} {v : Value} {y : DataW H × List MemPlace} (h : DataW.trod enc Tryz.prog w base spare held fuel 24 [v] = some y) :
    ∃ (a : Option Addr) (l : List Nm) (cap : Nat), v = .slice a l.length cap ∧ Row w 1 a l.length (l.map strV) ∧ keysN l + 1 ≤ Rows.uptoBulk y.1 := by
  obtain ⟨a, l, cap, X, D, h1, h2, h3, h4, h5⟩ := open_rowB (fun x : Nm => [strV x]) 1 (by decide) (fun _ => rfl) Tryz.underlying24 Tryz.cells1String (fun x d => x.length + 1 ≤ Rows.uptoBulk d) string_formB h
  rw [flat_one] at h2
  refine ⟨a, l, cap, h1, h2, ?_⟩
  have h6 := keys_bulk (n := l.length) (X := X) (D := D) h4
  rw [← h3] at h6
  omega
theorem kids_bulk {n : Nat} {X : Nat → VD} {D : Nat → DataW H} (h : ∀ i, i < n → sizeV (X i).v ≤ Rows.uptoBulk (D i)) : sizesV (((List.range n).map X).map VD.v) ≤ Rows.uptoBulkAll ((List.range n).map D) := by
  induction n with
  | zero => simp [sizesV]
  | succ n ih =>
    rw [List.range_succ, List.map_append, List.map_append, List.map_append, sizesV_app, bulk_app]
    have h1 := ih fun i hi => h i (by omega)
    have h2 := h n (Nat.lt_succ_self n)
    simp only [List.map_cons, List.map_nil, sizesV, Rows.uptoBulkAll]; omega
theorem open_kids {fuel : Nat} (hel : ∀ n, n < fuel → ∀ (cs : List Value) (y : DataW H × List MemPlace), DataW.trod enc Tryz.prog w base spare held n 26 cs = some y → ∃ x : VD, cs = x.cells ∧ ValAt w (fun _ => True) x ∧ sizeV x.v ≤ Rows.uptoBulk y.1)
    {v : Value} {y : DataW H × List MemPlace} (h : DataW.trod enc Tryz.prog w base spare held fuel 23 [v] = some y) :
    ∃ (a : Option Addr) (l : List VD) (cap : Nat), v = .slice a l.length cap ∧ Row w 6 a l.length (l.flatMap VD.cells) ∧ (∀ x ∈ l, ValAt w (fun _ => True) x) ∧ sizesV (l.map VD.v) + 1 ≤ Rows.uptoBulk y.1 := by
  rcases DataW.trod_slice Tryz.underlying23 h with ⟨h1, h2⟩ | ⟨a, len, cap, elems, rest, n, hfu, h1, h2, hb, hl, hm, hlen, hx, -, -⟩
  · simp only [List.cons.injEq, and_true] at h1
    exact ⟨none, [], 0, h1, Row.nil _ _ _, by simp, by rw [h2]; simp [sizesV, Rows.uptoBulk]⟩
  · simp only [List.cons.injEq, and_true] at h1
    rw [Tryz.cellsDoc] at hx
    obtain ⟨X, hX⟩ := choose_lt (α := VD) (n := len) (p := fun i x => w.cells? base (a.add (i * 6)) 6 = some x.cells ∧ ValAt w (fun _ => True) x ∧ sizeV x.v ≤ Rows.uptoBulk (elems.getD i (.nil, [])).1) (fun i hi => by
      have h3 := hx i hi
      rw [List.getElem?_eq_getElem (by omega)] at h3
      obtain ⟨cs', h4, h5⟩ := Option.bind_eq_some_iff.1 h3
      obtain ⟨x, rfl, hp, hw⟩ := hel n (by omega) _ _ h5
      exact ⟨x, h4, hp, by rw [List.getD_eq_getElem?_getD, List.getElem?_eq_getElem (by omega)]; exact hw⟩)
    have hln : ((List.range len).map X).length = len := by simp
    refine ⟨some a, (List.range len).map X, cap, by rw [hln]; exact h1, ?_, fun x hx' => ?_, ?_⟩
    · rw [hln]
      refine ⟨by rw [flat_length VD.cells 6 VD.len, hln], fun h0 => ?_⟩
      have hlp : 0 < len := Nat.pos_of_mul_pos_right h0
      obtain ⟨hsp, -, -⟩ := cells_at (hX 0 hlp).1 (by decide)
      have hsp0 : a.spot = none := by simpa [Addr.add] using hsp
      obtain ⟨b, o, s⟩ := a
      simp at hsp0
      subst hsp0
      refine ⟨b, o, rfl, fun j hj => ?_⟩
      have hi : j / 6 < len := Nat.div_lt_of_lt_mul (by rw [Nat.mul_comm]; exact hj)
      have hr : j % 6 < 6 := Nat.mod_lt _ (by decide)
      obtain ⟨-, -, hcell⟩ := cells_at (hX (j / 6) hi).1 (by decide)
      have e1 := hcell (j % 6) hr
      have ej : j / 6 * 6 + j % 6 = j := Nat.div_add_mod' j 6
      have e2 : (Addr.add ⟨b, o, none⟩ (j / 6 * 6)) = ⟨b, o + j / 6 * 6, none⟩ := by
        simp only [Addr.add]; split
        · rename_i h1; rw [h1]; rfl
        · rfl
      rw [e2] at e1
      simp only at e1
      rw [show o + j / 6 * 6 + j % 6 = o + j by omega] at e1
      rw [e1]
      have e3 := flat_get VD.cells 6 VD.len ((List.range len).map X) (j / 6) (j % 6) (X (j / 6)) (by simp [hi]) hr
      rw [ej] at e3
      exact e3.symm
    · obtain ⟨i, hi, rfl⟩ := List.mem_map.1 hx'
      exact (hX i (List.mem_range.1 hi)).2.1
    · have h6 := kids_bulk (n := len) (X := X) (D := fun i => (elems.getD i (.nil, [])).1) fun i hi => (hX i hi).2.2
      have h7 := map_by_index elems (.nil, []) (·.1)
      rw [hlen] at h7
      rw [h2]
      simp only [Rows.uptoBulk]
      rw [h7]
      omega
/-- a value that comes in -/
theorem open_doc : ∀ (fuel : Nat) (cs : List Value) (y : DataW H × List MemPlace), DataW.trod enc Tryz.prog w base spare held fuel 26 cs = some y → ∃ x : VD, cs = x.cells ∧ ValAt w (fun _ => True) x ∧ sizeV x.v ≤ Rows.uptoBulk y.1 := by
  intro fuel
  induction fuel using Nat.strongRecOn with
  | _ fuel ih =>
    intro cs y h
    obtain ⟨xs, n', hfu, hy, hl, hn, hf⟩ := DataW.trod_struct Tryz.underlying26 h
    rw [Tryz.cellsDoc] at hl
    obtain ⟨c0, c1, c2, c3, c4, c5, rfl⟩ := list6 hl
    obtain ⟨y0, y1, y2, y3, y4, y5, rfl⟩ := list6 hn
    have h0 := hf 0 _ rfl
    have h1 := hf 1 _ rfl
    have h2 := hf 2 _ rfl
    have h3 := hf 3 _ rfl
    have h4 := hf 4 _ rfl
    have h5 := hf 5 _ rfl
    simp [Tryz.cells1String, Tryz.cellsInt1, Tryz.cellsSort, Tryz.cellsBool, Tryz.cellsDocs, Tryz.cells1Strs] at h0 h1 h2 h3 h4 h5
    obtain ⟨so, hso, hy0, -⟩ := DataW.trod_int Tryz.underlying22 h0
    obtain ⟨on, hon, hy1, -⟩ := DataW.trod_bool Tryz.underlying4 h1
    obtain ⟨nn, hnn, hy2, -⟩ := DataW.trod_int Tryz.underlying3 h2
    obtain ⟨t, ht, htl⟩ := string_formB _ _ _ h3
    obtain ⟨a, ks, cap, hv, hr, hks, hw⟩ := open_kids (fun n hn => ih n (by omega)) h4
    obtain ⟨ka, keys, kc, hkv, hkr, hkw⟩ := open_keys h5
    simp only [List.cons.injEq, and_true] at hso hon hnn ht
    subst hso hon hnn ht hv hkv
    refine ⟨.mk so on nn t a cap ks ka kc keys, rfl, .mk hr hkr (fun _ _ _ => trivial) (fun _ _ _ => trivial) hks, ?_⟩
    rw [hy, sizeV_eq]
    simp only [List.map_cons, List.map_nil, Rows.uptoBulk, Rows.uptoBulkAll, VD.text, VD.keys, VD.list]
    omega
end
end Go.Proofs.YthnbeebilomchaaGreatDoor

namespace Go.Proofs.YthnbeebilomchaaGreatDoor
open Go

def kJson : Nm := [106, 115, 111, 110, 114, 112, 99]
def kMethod : Nm := [109, 101, 116, 104, 111, 100]
def kId : Nm := [105, 100]
def kParams : Nm := [112, 97, 114, 97, 109, 115]
def kDoc : Nm := [116, 101, 120, 116, 68, 111, 99, 117, 109, 101, 110, 116]
def kUri : Nm := [117, 114, 105]
def kVersion : Nm := [118, 101, 114, 115, 105, 111, 110]
def kText : Nm := [116, 101, 120, 116]
def kChanges : Nm := [99, 111, 110, 116, 101, 110, 116, 67, 104, 97, 110, 103, 101, 115]
def kPosition : Nm := [112, 111, 115, 105, 116, 105, 111, 110]
def kLine : Nm := [108, 105, 110, 101]
def kChar : Nm := [99, 104, 97, 114, 97, 99, 116, 101, 114]
def kRange : Nm := [114, 97, 110, 103, 101]
def kStart : Nm := [115, 116, 97, 114, 116]
def kEnd : Nm := [101, 110, 100]
def kResult : Nm := [114, 101, 115, 117, 108, 116]
def v20 : Nm := [50, 46, 48]
/-- the kinds' names -/
def methodL : List Nm := [[],
  [105, 110, 105, 116, 105, 97, 108, 105, 122, 101],
  [115, 104, 117, 116, 100, 111, 119, 110],
  [101, 120, 105, 116],
  [116, 101, 120, 116, 68, 111, 99, 117, 109, 101, 110, 116, 47, 100, 105, 100, 79, 112, 101, 110],
  [116, 101, 120, 116, 68, 111, 99, 117, 109, 101, 110, 116, 47, 100, 105, 100, 67, 104, 97, 110, 103, 101],
  [116, 101, 120, 116, 68, 111, 99, 117, 109, 101, 110, 116, 47, 100, 105, 100, 67, 108, 111, 115, 101],
  [116, 101, 120, 116, 68, 111, 99, 117, 109, 101, 110, 116, 47, 104, 111, 118, 101, 114],
  [116, 101, 120, 116, 68, 111, 99, 117, 109, 101, 110, 116, 47, 100, 105, 97, 103, 110, 111, 115, 116, 105, 99],
  [36, 47, 99, 97, 110, 99, 101, 108, 82, 101, 113, 117, 101, 115, 116]]
def methodN (k : Nat) : Nm := methodL.getD k []
def asksN (k : Nat) : Bool := k == 1 || k == 2 || k == 7 || k == 8
/-- a change of a text: from, to (line, unit), the text, whether the whole -/
structure E where
  fl : Int
  fu : Int
  tl : Int
  tu : Int
  text : Nm
  whole : Bool
/-- what a message asks -/
structure C where
  kind : Nat
  id : V
  name : Nm
  version : Int
  text : Nm
  changes : List E
  pl : Int
  pu : Int
  other : V
def C.zero : C := ⟨0, .null, [], 0, [], [], 0, 0, .null⟩
def C.of (k : Nat) (x : V) : C := { C.zero with kind := k, id := x }
def gText (v : V) (p : List Nm) : Option Nm := (getV v p).bind fun x => if x.sort = 3 then some x.text else none
def gNum (v : V) (p : List Nm) : Option Int := (getV v p).bind fun x => if x.sort = 2 then some x.n else none
def gList (v : V) (p : List Nm) : Option (List V) := (getV v p).bind fun x => if x.sort = 4 then some x.list else none
def idOk (v : V) : Bool := v.sort == 2 || v.sort == 3
def gPlace (v : V) (p : List Nm) : Option (Int × Int) := (gNum v (p ++ [kLine])).bind fun a => (gNum v (p ++ [kChar])).map fun b => (a, b)
def chL (v : V) : Option E :=
  (gText v [kText]).bind fun t =>
    match getV v [kRange] with
    | none => some ⟨0, 0, 0, 0, t, true⟩
    | some _ => (gPlace v [kRange, kStart]).bind fun a => (gPlace v [kRange, kEnd]).map fun b => ⟨a.1, a.2, b.1, b.2, t, false⟩
def chsL : List V → Option (List E)
  | [] => some []
  | v :: l => (chL v).bind fun e => (chsL l).map fun m => e :: m
/-- what a kind's params tell -/
def tellL (k : Nat) (x p : V) : Option C :=
  if k ≤ 3 then some (C.of k x)
  else if k = 9 then (match getV p [kId] with | some y => if idOk y then some { C.of k x with other := y } else none | none => none)
  else (gText p [kDoc, kUri]).bind fun name =>
    if k = 4 then (gNum p [kDoc, kVersion]).bind fun n => (gText p [kDoc, kText]).map fun t => { C.of k x with name := name, version := n, text := t }
    else if k = 5 then (gNum p [kDoc, kVersion]).bind fun n => ((gList p [kChanges]).bind chsL).map fun l => { C.of k x with name := name, version := n, changes := l }
    else if k = 7 then (gPlace p [kPosition]).map fun a => { C.of k x with name := name, pl := a.1, pu := a.2 }
    else some { C.of k x with name := name }
/-- what a message is read to: an error, and a call -/
def readC (v : V) : Int × C :=
  match gText v [kJson], gText v [kMethod] with
  | some told, some name =>
    if told ≠ v20 ∨ ((getV v [kId]).any fun x => !idOk x) = true ∨ ((getV v [kParams]).any fun p => p.sort != 5 && p.sort != 4) = true then (42, C.zero)
    else
      match indexK name methodL with
      | none => (43, C.of 0 ((getV v [kId]).getD .null))
      | some k =>
        if k = 0 ∨ asksN k ≠ (getV v [kId]).isSome then (43, C.of 0 ((getV v [kId]).getD .null))
        else match tellL k ((getV v [kId]).getD .null) ((getV v [kParams]).getD .null) with
          | none => (44, C.of k ((getV v [kId]).getD .null))
          | some c => (0, c)
  | _, _ => (42, C.zero)
/-! ### what is written -/
def strW (s : Nm) : V := .mk 3 false 0 s [] []
def numW (n : Int) : V := .mk 2 false n [] [] []
def recW (l : List (Nm × V)) : V := .mk 5 false 0 [] (l.map (·.2)) (l.map (·.1))
def listW (l : List V) : V := .mk 4 false 0 [] l []
def atW (a b : Int) : V := recW [(kLine, numW a), (kChar, numW b)]
def editW (e : E) : V := recW ((kText, strW e.text) :: if e.whole then [] else [(kRange, recW [(kStart, atW e.fl e.fu), (kEnd, atW e.tl e.tu)])])
def paramsW (c : C) : V :=
  if c.kind = 9 then recW [(kId, c.other)]
  else recW ((kDoc, recW ((kUri, strW c.name) :: if c.kind = 4 then [(kVersion, numW c.version), (kText, strW c.text)] else if c.kind = 5 then [(kVersion, numW c.version)] else [])) ::
    if c.kind = 5 then [(kChanges, listW (c.changes.map editW))] else if c.kind = 7 then [(kPosition, atW c.pl c.pu)] else [])
def msgW (c : C) : V := recW ((kJson, strW v20) :: ((if c.id.sort = 0 then [] else [(kId, c.id)]) ++ (kMethod, strW (methodN c.kind)) :: if 3 < c.kind then [(kParams, paramsW c)] else []))

/-! ### there and back -/
theorem getV_rec (l : List (Nm × V)) (k : Nm) (p : List Nm) : getV (recW l) (k :: p) = match (l.find? fun x => x.1 == k) with | some x => getV x.2 p | none => none := by
  have h : stepV (recW l) k = (l.find? fun x => x.1 == k).map (·.2) := by
    unfold stepV recW
    simp only [V.sort, V.keys, V.list, if_true]
    induction l with
    | nil => rfl
    | cons x l ih =>
      rw [List.map_cons, List.map_cons, indexK, List.find?_cons]
      by_cases hx : x.1 = k
      · rw [if_pos hx]; simp [hx]
      · rw [if_neg hx]
        have : (x.1 == k) = false := by simpa using hx
        rw [this, ← ih]
        cases indexK k (l.map (·.1)) <;> simp
  rw [getV, h]
  cases l.find? fun x => x.1 == k <;> rfl
theorem getV_nil (v : V) : getV v [] = some v := by rw [getV]
theorem chL_edit (e : E) (h : e.whole = true → e.fl = 0 ∧ e.fu = 0 ∧ e.tl = 0 ∧ e.tu = 0) : chL (editW e) = some e := by
  obtain ⟨a, b, c, d, t, w⟩ := e
  cases w with
  | true =>
    obtain ⟨rfl, rfl, rfl, rfl⟩ := h rfl
    rfl
  | false => rfl
theorem chsL_edits : ∀ (l : List E), (∀ e ∈ l, e.whole = true → e.fl = 0 ∧ e.fu = 0 ∧ e.tl = 0 ∧ e.tu = 0) → chsL (l.map editW) = some l
  | [], _ => rfl
  | e :: l, h => by
    rw [List.map_cons, chsL, chL_edit e (h e (by simp)), chsL_edits l fun x hx => h x (List.mem_cons_of_mem _ hx)]
    rfl
theorem chL_whole {v : V} {e : E} (h : chL v = some e) : e.whole = true → e.fl = 0 ∧ e.fu = 0 ∧ e.tl = 0 ∧ e.tu = 0 := by
  unfold chL at h
  cases ht : gText v [kText] with
  | none => rw [ht] at h; cases h
  | some t =>
    rw [ht, Option.bind_some] at h
    cases hr : getV v [kRange] with
    | none => rw [hr] at h; simp only [Option.some.injEq] at h; rw [← h]; intro _; exact ⟨rfl, rfl, rfl, rfl⟩
    | some r =>
      rw [hr] at h
      simp only at h
      cases ha : gPlace v [kRange, kStart] with
      | none => rw [ha] at h; cases h
      | some a =>
        rw [ha, Option.bind_some] at h
        cases hb : gPlace v [kRange, kEnd] with
        | none => rw [hb] at h; cases h
        | some b => rw [hb] at h; simp only [Option.map_some, Option.some.injEq] at h; rw [← h]; intro hw; cases hw
theorem chsL_whole : ∀ {l : List V} {m : List E}, chsL l = some m → ∀ e ∈ m, e.whole = true → e.fl = 0 ∧ e.fu = 0 ∧ e.tl = 0 ∧ e.tu = 0
  | [], m, h => by rw [chsL] at h; cases h; intro e he; cases he
  | v :: l, m, h => by
    rw [chsL] at h
    cases ha : chL v with
    | none => rw [ha] at h; cases h
    | some e =>
      rw [ha, Option.bind_some] at h
      cases hb : chsL l with
      | none => rw [hb] at h; cases h
      | some m' =>
        rw [hb] at h
        simp only [Option.map_some, Option.some.injEq] at h
        rw [← h]
        exact List.forall_mem_cons.2 ⟨chL_whole ha, chsL_whole hb⟩
theorem get1 (l : List (Nm × V)) (k : Nm) : getV (recW l) [k] = (l.find? fun x => x.1 == k).map (·.2) := by
  rw [getV_rec]; cases l.find? fun x => x.1 == k <;> rfl
theorem msg_json (c : C) : getV (msgW c) [kJson] = some (strW v20) := rfl
theorem msg_method (c : C) : getV (msgW c) [kMethod] = some (strW (methodN c.kind)) := by
  unfold msgW; rw [get1]
  by_cases h : c.id.sort = 0
  · rw [if_pos h]; rfl
  · rw [if_neg h]; rfl
theorem msg_id (c : C) : getV (msgW c) [kId] = if c.id.sort = 0 then none else some c.id := by
  unfold msgW; rw [get1]
  by_cases h : c.id.sort = 0
  · rw [if_pos h, if_pos h]
    by_cases h3 : 3 < c.kind
    · rw [if_pos h3]; rfl
    · rw [if_neg h3]; rfl
  · rw [if_neg h, if_neg h]; rfl
theorem msg_params (c : C) : getV (msgW c) [kParams] = if 3 < c.kind then some (paramsW c) else none := by
  unfold msgW; rw [get1]
  by_cases h : c.id.sort = 0
  · rw [if_pos h]
    by_cases h3 : 3 < c.kind
    · rw [if_pos h3, if_pos h3]; rfl
    · rw [if_neg h3, if_neg h3]; rfl
  · rw [if_neg h]
    by_cases h3 : 3 < c.kind
    · rw [if_pos h3, if_pos h3]; rfl
    · rw [if_neg h3, if_neg h3]; rfl
theorem paramsW_sort (c : C) : (paramsW c).sort = 5 := by unfold paramsW; split <;> rfl
theorem paramsW_other (c : C) (h9 : ¬ c.kind = 9) (h4 : ¬ c.kind = 4) (h5 : ¬ c.kind = 5) (h7 : ¬ c.kind = 7) : paramsW c = recW [(kDoc, recW [(kUri, strW c.name)])] := by
  unfold paramsW
  rw [if_neg h9, if_neg h4, if_neg h5, if_neg h5, if_neg h7]
theorem index_method : ∀ k : Fin 10, k.val ≠ 0 → indexK (methodN k.val) methodL = some k.val := by decide
theorem get_lt9 {x : Nm} {k : Nat} (h : indexK x methodL = some k) : k < 10 := by
  have := (List.getElem?_eq_some_iff.1 (indexK_some h).1).1
  exact this
/-- what is read has been told so -/
structure Told (c : C) : Prop where
  k1 : 1 ≤ c.kind
  k9 : c.kind ≤ 9
  id : if asksN c.kind then idOk c.id = true else c.id = .null
  tell : tellL c.kind c.id (paramsW c) = some c
theorem tell_kind {k : Nat} {x p : V} {c : C} (h : tellL k x p = some c) : c.kind = k ∧ c.id = x := by
  unfold tellL at h
  split at h
  · simp only [Option.some.injEq] at h; rw [← h]; exact ⟨rfl, rfl⟩
  split at h
  · split at h
    · split at h
      · simp only [Option.some.injEq] at h; rw [← h]; exact ⟨rfl, rfl⟩
      · cases h
    · cases h
  cases hn : gText p [kDoc, kUri] with
  | none => rw [hn] at h; cases h
  | some name =>
    rw [hn, Option.bind_some] at h
    split at h
    · cases ha : gNum p [kDoc, kVersion] with
      | none => rw [ha] at h; cases h
      | some a =>
        rw [ha, Option.bind_some] at h
        cases hb : gText p [kDoc, kText] with
        | none => rw [hb] at h; cases h
        | some b => rw [hb] at h; simp only [Option.map_some, Option.some.injEq] at h; rw [← h]; exact ⟨rfl, rfl⟩
    split at h
    · cases ha : gNum p [kDoc, kVersion] with
      | none => rw [ha] at h; cases h
      | some a =>
        rw [ha, Option.bind_some] at h
        cases hb : (gList p [kChanges]).bind chsL with
        | none => rw [hb] at h; cases h
        | some b => rw [hb] at h; simp only [Option.map_some, Option.some.injEq] at h; rw [← h]; exact ⟨rfl, rfl⟩
    split at h
    · cases ha : gPlace p [kPosition] with
      | none => rw [ha] at h; cases h
      | some a => rw [ha] at h; simp only [Option.map_some, Option.some.injEq] at h; rw [← h]; exact ⟨rfl, rfl⟩
    · simp only [Option.some.injEq] at h; rw [← h]; exact ⟨rfl, rfl⟩
theorem tell_back {k : Nat} {x p : V} {c : C} (h : tellL k x p = some c) : tellL k x (paramsW c) = some c := by
  unfold tellL at h
  split at h
  · rename_i h3; unfold tellL; rw [if_pos h3]; exact h
  rename_i h3
  split at h
  · rename_i h9
    subst h9
    split at h
    · split at h
      · rename_i y hy hid
        simp only [Option.some.injEq] at h
        subst h
        have e : getV (paramsW { C.of 9 x with other := y }) [kId] = some y := rfl
        unfold tellL
        rw [if_neg h3, if_pos rfl, e]
        simp only
        rw [if_pos hid]
      · cases h
    · cases h
  rename_i h9
  cases hn : gText p [kDoc, kUri] with
  | none => rw [hn] at h; cases h
  | some name =>
    rw [hn, Option.bind_some] at h
    split at h
    · rename_i h4
      subst h4
      cases ha : gNum p [kDoc, kVersion] with
      | none => rw [ha] at h; cases h
      | some a =>
        rw [ha, Option.bind_some] at h
        cases hb : gText p [kDoc, kText] with
        | none => rw [hb] at h; cases h
        | some b => rw [hb] at h; simp only [Option.map_some, Option.some.injEq] at h; subst h; rfl
    rename_i h4
    split at h
    · rename_i h5
      subst h5
      cases ha : gNum p [kDoc, kVersion] with
      | none => rw [ha] at h; cases h
      | some a =>
        rw [ha, Option.bind_some] at h
        cases hl : gList p [kChanges] with
        | none => rw [hl] at h; cases h
        | some l =>
          rw [hl, Option.bind_some] at h
          cases hb : chsL l with
          | none => rw [hb] at h; cases h
          | some m =>
            rw [hb] at h
            simp only [Option.map_some, Option.some.injEq] at h
            subst h
            have hm := chsL_edits m (chsL_whole hb)
            have e : gList (paramsW { C.of 5 x with name := name, version := a, changes := m }) [kChanges] = some (m.map editW) := rfl
            unfold tellL
            rw [if_neg (by decide), if_neg (by decide), show gText (paramsW { C.of 5 x with name := name, version := a, changes := m }) [kDoc, kUri] = some name from rfl, Option.bind_some, if_neg (by decide), if_pos rfl,
              show gNum (paramsW { C.of 5 x with name := name, version := a, changes := m }) [kDoc, kVersion] = some a from rfl, Option.bind_some, e, Option.bind_some, hm]
            rfl
    rename_i h5
    split at h
    · rename_i h7
      subst h7
      cases ha : gPlace p [kPosition] with
      | none => rw [ha] at h; cases h
      | some a => rw [ha] at h; simp only [Option.map_some, Option.some.injEq] at h; subst h; rfl
    · rename_i h7
      simp only [Option.some.injEq] at h
      subst h
      have e : paramsW { C.of k x with name := name } = recW [(kDoc, recW [(kUri, strW name)])] := paramsW_other _ h9 h4 h5 h7
      unfold tellL
      rw [if_neg h3, if_neg h9, e, show gText (recW [(kDoc, recW [(kUri, strW name)])]) [kDoc, kUri] = some name from rfl, Option.bind_some, if_neg h4, if_neg h5, if_neg h7]
theorem readC_told {v : V} {c : C} (h : readC v = (0, c)) : Told c := by
  unfold readC at h
  split at h
  · split at h
    · simp only [Prod.mk.injEq] at h; omega
    · rename_i hno
      split at h
      · simp only [Prod.mk.injEq] at h; omega
      · rename_i k hk
        split at h
        · simp only [Prod.mk.injEq] at h; omega
        · rename_i hask
          split at h
          · simp only [Prod.mk.injEq] at h; omega
          · rename_i c' ht
            simp only [Prod.mk.injEq, true_and] at h
            subst h
            obtain ⟨hkk, hid⟩ := tell_kind ht
            have hlt := get_lt9 hk
            simp only [not_or, ne_eq, Decidable.not_not] at hask hno
            refine ⟨by omega, by omega, ?_, ?_⟩
            · rw [hkk, hid]
              cases hx : getV v [kId] with
              | none => rw [hx] at hask; rw [hask.2]; rfl
              | some x =>
                rw [hx] at hask hno
                rw [hask.2]
                simpa using hno.2.1
            · rw [hkk, hid]; exact tell_back ht
  · simp only [Prod.mk.injEq] at h; omega
/-- what is told is written, and read as it -/
theorem told_back {c : C} (h : Told c) : readC (msgW c) = (0, c) := by
  have hk := index_method ⟨c.kind, by have := h.k9; omega⟩ (by have := h.k1; show c.kind ≠ 0; omega)
  simp only at hk
  have g1 : gText (msgW c) [kJson] = some v20 := by unfold gText; rw [msg_json]; rfl
  have g2 : gText (msgW c) [kMethod] = some (methodN c.kind) := by unfold gText; rw [msg_method]; rfl
  have hid : (getV (msgW c) [kId]).isSome = asksN c.kind ∧ (getV (msgW c) [kId]).getD .null = c.id ∧ ((getV (msgW c) [kId]).any fun x => !idOk x) = false := by
    rw [msg_id]
    have := h.id
    cases ha : asksN c.kind with
    | true =>
      rw [ha, if_pos rfl] at this
      have hs : c.id.sort ≠ 0 := by intro e; unfold idOk at this; rw [e] at this; simp at this
      rw [if_neg hs]
      exact ⟨rfl, rfl, by simp [this]⟩
    | false =>
      rw [ha, if_neg (by decide)] at this
      rw [this]
      exact ⟨rfl, rfl, rfl⟩
  have hp : ((getV (msgW c) [kParams]).any fun p => p.sort != 5 && p.sort != 4) = false := by
    rw [msg_params]
    split
    · simp [paramsW_sort]
    · rfl
  have ht : tellL c.kind c.id ((getV (msgW c) [kParams]).getD .null) = some c := by
    rw [msg_params]
    by_cases h3 : 3 < c.kind
    · rw [if_pos h3]; exact h.tell
    · have := h.tell
      rw [if_neg h3]
      unfold tellL at this ⊢
      rw [if_pos (by omega)] at this ⊢
      exact this
  unfold readC
  rw [g1, g2]
  simp only
  rw [if_neg (by rw [hid.2.2, hp]; simp), hk]
  simp only
  rw [if_neg (by rw [hid.1]; have := h.k1; simp; omega), hid.2.1, ht]
end Go.Proofs.YthnbeebilomchaaGreatDoor

namespace Go.Proofs.YthnbeebilomchaaGreatDoor
open Go

/-- an error's code, and its name -/
def codeN (e : Int) : Int :=
  if e = 41 then -32700 else if e = 42 ∨ e = 232 then -32600 else if e = 43 then -32601 else if e = 44 then -32602 else if e = 231 then -32002 else if e = 233 then -32800 else if e = 71 then -32801 else -32001
def codeNm (n : Int) : Nm :=
  if n = -32700 then [80, 97, 114, 115, 101, 69, 114, 114, 111, 114] else if n = -32600 then [73, 110, 118, 97, 108, 105, 100, 82, 101, 113, 117, 101, 115, 116] else if n = -32601 then [77, 101, 116, 104, 111, 100, 78, 111, 116, 70, 111, 117, 110, 100] else if n = -32602 then [73, 110, 118, 97, 108, 105, 100, 80, 97, 114, 97, 109, 115] else if n = -32002 then [83, 101, 114, 118, 101, 114, 78, 111, 116, 73, 110, 105, 116, 105, 97, 108, 105, 122, 101, 100] else if n = -32800 then [82, 101, 113, 117, 101, 115, 116, 67, 97, 110, 99, 101, 108, 108, 101, 100] else if n = -32801 then [67, 111, 110, 116, 101, 110, 116, 77, 111, 100, 105, 102, 105, 101, 100] else [76, 105, 109, 105, 116, 69, 120, 99, 101, 101, 100, 101, 100]
def replyW (i r : V) : V := recW [(kJson, strW v20), (kId, i), (kResult, r)]
/-- the live message -/
def c4 : C := { C.of 7 (numW 7) with name := [97], pl := 3, pu := 4 }
end Go.Proofs.YthnbeebilomchaaGreatDoor

namespace Go.Proofs.YthnbeebilomchaaGreatDoor
open Go Go.RowKit

instance : Inhabited E := ⟨⟨0, 0, 0, 0, [], false⟩⟩
def E.cells (e : E) : List Value := [.int .i64 e.fl, .int .i64 e.fu, .int .i64 e.tl, .int .i64 e.tu, strV e.text, .bool e.whole]
theorem E.len (e : E) : e.cells.length = 6 := rfl
/-- a call whose parts lie in memory -/
structure CD where
  kind : Int
  id : VD
  name : Nm
  version : Int
  text : Nm
  a : Option Addr
  c : Nat
  changes : List E
  pl : Int
  pu : Int
  other : VD
def CD.cells (d : CD) : List Value :=
  .int .i64 d.kind :: (d.id.cells ++ [strV d.name, .int .i64 d.version, strV d.text, .slice d.a d.changes.length d.c, .int .i64 d.pl, .int .i64 d.pu] ++ d.other.cells)
theorem CD.len (d : CD) : d.cells.length = 19 := by
  unfold CD.cells; simp [VD.len]
def CD.val (d : CD) : Value := .agg d.cells.toArray
/-- what it is, its kind being one that is known -/
def CD.k (d : CD) : C := ⟨d.kind.toNat, d.id.v, d.name, d.version, d.text, d.changes, d.pl, d.pu, d.other.v⟩
structure CallAt (w : World) (d : CD) : Prop where
  id : ValAt w (fun _ => True) d.id
  other : ValAt w (fun _ => True) d.other
  row : Row w 6 d.a d.changes.length (d.changes.flatMap E.cells)
theorem CallAt.ext {w w' : World} {d : CD} (h : CallAt w d) (hb : Below w.heap.size w w') : CallAt w' d := ⟨h.id.ext hb, h.other.ext hb, h.row.ext hb⟩
end Go.Proofs.YthnbeebilomchaaGreatDoor

namespace Go.Proofs.YthnbeebilomchaaGreatDoor
open Go Go.RowKit

def StrE (w : World) (s : Nm) (e : Ending) (w' : World) : Prop := e = .returned (.agg #[.int .i64 3, .bool false, .int .i64 0, .string ⟨s.toArray⟩, .slice none 0 0, .slice none 0 0]) ∧ Below w.heap.size w w'
def NumE (w : World) (n : Int) (e : Ending) (w' : World) : Prop := e = .returned (.agg #[.int .i64 2, .bool false, .int .i64 n, .string { data := #[] }, .slice none 0 0, .slice none 0 0]) ∧ Below w.heap.size w w'
def Bo (w : World) (b : Bool) (e : Ending) (w' : World) : Prop := e = .returned (.bool b) ∧ Below w.heap.size w w'
theorem str_end {W : World} {tm : Array Value} {R : Ending → World → Prop} {g : Nat} {u0 u1 u2 u3 u4 u5 : Value} (h2 : tm.getD 2 undef = .pointer (some ⟨g, 0, none⟩)) (hB : Blk W g #[u0, u1, u2, u3, u4, u5] 36)
    (hR : R (.returned (.agg #[u0, u1, u2, u3, u4, u5])) W) : bodyPost Tryz.prog Tryz.f29 R .ret { tmps := tm, defers := [] } W := by
  have d0 := hB.cell 0
  have d1 := hB.cell 1
  have d2 := hB.cell 2
  have d3 := hB.cell 3
  have d4 := hB.cell 4
  have d5 := hB.cell 5
  simp only [List.getElem?_toArray, List.getElem?_cons_zero, List.getElem?_cons_succ] at d0 d1 d2 d3 d4 d5
  rw [Array.getD_eq_getD_getElem?] at h2
  refine bodyPost_ret (v := .agg #[u0, u1, u2, u3, u4, u5]) ?_ rfl hR
  simp [results, Tryz.results29, go_sem, h2, d0, d1, d2, d3, d4, d5]
theorem str_any (s : Nm) (w : World) : Calls Tryz.prog 29 #[.string ⟨s.toArray⟩] w (StrE w s) := by
  generalize hz : (⟨s.toArray⟩ : ByteArray) = z
  have HZ := Lib.hid hz
  clear hz
  go_enter Tryz.func29, Tryz.ntmps29
  go_wp2
  refine str_end (g := w.heap.size) rfl (Blk.new rfl) ?_
  exact ⟨by rw [HZ.out], below_a1 _ _⟩
theorem num_end {W : World} {tm : Array Value} {R : Ending → World → Prop} {g : Nat} {u0 u1 u2 u3 u4 u5 : Value} (h2 : tm.getD 2 undef = .pointer (some ⟨g, 0, none⟩)) (hB : Blk W g #[u0, u1, u2, u3, u4, u5] 36)
    (hR : R (.returned (.agg #[u0, u1, u2, u3, u4, u5])) W) : bodyPost Tryz.prog Tryz.f38 R .ret { tmps := tm, defers := [] } W := by
  have d0 := hB.cell 0
  have d1 := hB.cell 1
  have d2 := hB.cell 2
  have d3 := hB.cell 3
  have d4 := hB.cell 4
  have d5 := hB.cell 5
  simp only [List.getElem?_toArray, List.getElem?_cons_zero, List.getElem?_cons_succ] at d0 d1 d2 d3 d4 d5
  rw [Array.getD_eq_getD_getElem?] at h2
  refine bodyPost_ret (v := .agg #[u0, u1, u2, u3, u4, u5]) ?_ rfl hR
  simp [results, Tryz.results38, go_sem, h2, d0, d1, d2, d3, d4, d5]
theorem num_any (n : Int) (w : World) : Calls Tryz.prog 38 #[.int .i64 n] w (NumE w n) := by
  go_enter Tryz.func38, Tryz.ntmps38
  go_wp2
  refine num_end (g := w.heap.size) rfl (Blk.new rfl) ?_
  exact ⟨rfl, below_a1 _ _⟩
def CodeE (w : World) (e : Int) (r : Ending) (w' : World) : Prop := r = .returned (.agg #[.int .i64 (codeN e), .string ⟨(codeNm (codeN e)).toArray⟩]) ∧ Below w.heap.size w w'
theorem codes_end {W : World} {tm : Array Value} {R : Ending → World → Prop} {g : Nat} {u0 u1 : Value} (h2 : tm.getD 2 undef = .pointer (some ⟨g, 0, none⟩)) (hB : Blk W g #[u0, u1] 88)
    (hR : R (.returned (.agg #[u0, u1])) W) : bodyPost Tryz.prog Tryz.f37 R .ret { tmps := tm, defers := [] } W := by
  have d0 := hB.cell 0
  have d1 := hB.cell 1
  simp only [List.getElem?_toArray, List.getElem?_cons_zero, List.getElem?_cons_succ] at d0 d1
  rw [Array.getD_eq_getD_getElem?] at h2
  refine bodyPost_ret (v := .agg #[u0, u1]) ?_ rfl hR
  simp [results, Tryz.results37, go_sem, h2, d0, d1]
set_option maxHeartbeats 2000000 in
set_option maxRecDepth 4000 in
theorem codes_any (e : Int) (w : World) : Calls Tryz.prog 37 #[.int .i64 e] w (CodeE w e) := by
  obtain ⟨n, hn⟩ : ∃ n, n = codeN e := ⟨_, rfl⟩
  obtain ⟨z, hz⟩ : ∃ z : ByteArray, z = ⟨(codeNm n).toArray⟩ := ⟨_, rfl⟩
  have hP : CodeE w e = fun r w' => r = .returned (.agg #[.int .i64 n, .string z]) ∧ Below w.heap.size w w' := by unfold CodeE; rw [hz, hn]
  rw [hP]
  clear hP
  by_cases e41 : e = 41
  · have HN : Hid (n = codeN 41) := Lib.hid (by rw [hn, e41])
    have HZ : Hid (z = ⟨(codeNm (codeN 41)).toArray⟩) := Lib.hid (by rw [hz, HN.out])
    subst e41
    clear hn hz
    go_enter Tryz.func37, Tryz.ntmps37
    go_wp2
    refine codes_end (g := w.heap.size) rfl (Blk.new rfl) ?_
    exact ⟨by rw [HN.out, HZ.out]; rfl, below_a1 _ _⟩
  have f41 : (e == 41) = false := by simpa using e41
  by_cases e42 : e = 42
  · have HN : Hid (n = codeN 42) := Lib.hid (by rw [hn, e42])
    have HZ : Hid (z = ⟨(codeNm (codeN 42)).toArray⟩) := Lib.hid (by rw [hz, HN.out])
    subst e42
    clear hn hz
    go_enter Tryz.func37, Tryz.ntmps37
    go_wp2
    refine codes_end (g := w.heap.size) rfl (Blk.new rfl) ?_
    exact ⟨by rw [HN.out, HZ.out]; rfl, below_a1 _ _⟩
  have f42 : (e == 42) = false := by simpa using e42
  by_cases e232 : e = 232
  · have HN : Hid (n = codeN 232) := Lib.hid (by rw [hn, e232])
    have HZ : Hid (z = ⟨(codeNm (codeN 232)).toArray⟩) := Lib.hid (by rw [hz, HN.out])
    subst e232
    clear hn hz
    go_enter Tryz.func37, Tryz.ntmps37
    go_wp2
    refine codes_end (g := w.heap.size) rfl (Blk.new rfl) ?_
    exact ⟨by rw [HN.out, HZ.out]; rfl, below_a1 _ _⟩
  have f232 : (e == 232) = false := by simpa using e232
  by_cases e43 : e = 43
  · have HN : Hid (n = codeN 43) := Lib.hid (by rw [hn, e43])
    have HZ : Hid (z = ⟨(codeNm (codeN 43)).toArray⟩) := Lib.hid (by rw [hz, HN.out])
    subst e43
    clear hn hz
    go_enter Tryz.func37, Tryz.ntmps37
    go_wp2
    refine codes_end (g := w.heap.size) rfl (Blk.new rfl) ?_
    exact ⟨by rw [HN.out, HZ.out]; rfl, below_a1 _ _⟩
  have f43 : (e == 43) = false := by simpa using e43
  by_cases e44 : e = 44
  · have HN : Hid (n = codeN 44) := Lib.hid (by rw [hn, e44])
    have HZ : Hid (z = ⟨(codeNm (codeN 44)).toArray⟩) := Lib.hid (by rw [hz, HN.out])
    subst e44
    clear hn hz
    go_enter Tryz.func37, Tryz.ntmps37
    go_wp2
    refine codes_end (g := w.heap.size) rfl (Blk.new rfl) ?_
    exact ⟨by rw [HN.out, HZ.out]; rfl, below_a1 _ _⟩
  have f44 : (e == 44) = false := by simpa using e44
  by_cases e231 : e = 231
  · have HN : Hid (n = codeN 231) := Lib.hid (by rw [hn, e231])
    have HZ : Hid (z = ⟨(codeNm (codeN 231)).toArray⟩) := Lib.hid (by rw [hz, HN.out])
    subst e231
    clear hn hz
    go_enter Tryz.func37, Tryz.ntmps37
    go_wp2
    refine codes_end (g := w.heap.size) rfl (Blk.new rfl) ?_
    exact ⟨by rw [HN.out, HZ.out]; rfl, below_a1 _ _⟩
  have f231 : (e == 231) = false := by simpa using e231
  by_cases e233 : e = 233
  · have HN : Hid (n = codeN 233) := Lib.hid (by rw [hn, e233])
    have HZ : Hid (z = ⟨(codeNm (codeN 233)).toArray⟩) := Lib.hid (by rw [hz, HN.out])
    subst e233
    clear hn hz
    go_enter Tryz.func37, Tryz.ntmps37
    go_wp2
    refine codes_end (g := w.heap.size) rfl (Blk.new rfl) ?_
    exact ⟨by rw [HN.out, HZ.out]; rfl, below_a1 _ _⟩
  have f233 : (e == 233) = false := by simpa using e233
  by_cases e71 : e = 71
  · have HN : Hid (n = codeN 71) := Lib.hid (by rw [hn, e71])
    have HZ : Hid (z = ⟨(codeNm (codeN 71)).toArray⟩) := Lib.hid (by rw [hz, HN.out])
    subst e71
    clear hn hz
    go_enter Tryz.func37, Tryz.ntmps37
    go_wp2
    refine codes_end (g := w.heap.size) rfl (Blk.new rfl) ?_
    exact ⟨by rw [HN.out, HZ.out]; rfl, below_a1 _ _⟩
  have f71 : (e == 71) = false := by simpa using e71
  have HN : Hid (n = -32001) := Lib.hid (by rw [hn]; unfold codeN; simp [e41, e42, e232, e43, e44, e231, e233, e71])
  have HZ : Hid (z = ⟨(codeNm (-32001)).toArray⟩) := Lib.hid (by rw [hz, HN.out])
  clear hn hz e41 e42 e232 e43 e44 e231 e233 e71
  go_enter Tryz.func37, Tryz.ntmps37
  go_wp2
  refine codes_end (g := w.heap.size) rfl (Blk.new rfl) ?_
  exact ⟨by rw [HN.out, HZ.out]; rfl, below_a1 _ _⟩
theorem field_code (n : Int) (z : ByteArray) (w : World) : Sem.run Tryz.prog (Instr.field 88 (.agg #[.int .i64 n, .string z]) 0) w = .ok (.int .i64 n) w := by kernel_rfl
theorem code_any (e : Int) (w : World) : Calls Tryz.prog 22 #[.int .i64 e] w (fun r w' => r = .returned (.int .i64 (codeN e)) ∧ Below w.heap.size w w') := by
  have h1 : Calls Tryz.prog 37 #[.int .i64 e] w (fun r w' => ∃ z : ByteArray, r = .returned (.agg #[.int .i64 (codeN e), .string z]) ∧ Below w.heap.size w w') := (codes_any e w).mono fun r w' h => ⟨_, h⟩
  have H1 := Lib.hid h1
  clear h1
  generalize codeN e = n at *
  go_enter Tryz.func22, Tryz.ntmps22
  go_wp2_with fail
  refine H1.out.mono ?_
  clear H1
  rintro r w1 ⟨z, rfl, hb⟩
  have HB := Lib.hid hb
  have hf := field_code n z w1
  clear hb
  go_wp2
  go_ret
  exact ⟨rfl, HB.out⟩
/-- may a value be an id? -/
theorem id_any (d : VD) (w : World) : Calls Tryz.prog 45 #[d.val] w (Bo w (idOk d.v)) := by
  obtain ⟨s, o, n, t, a, c, l, ka, kc, ks⟩ := d
  have hi : idOk (VD.mk s o n t a c l ka kc ks).v = (s == 2 || s == 3) := rfl
  rw [hi]
  have HB := Lib.hid (below_a1 w (.cells #[.int .i64 s, .bool o, .int .i64 n, .string ⟨t.toArray⟩, .slice a l.length c, .slice ka ks.length kc] 36))
  simp only [VD.val, VD.cells, strV]
  obtain ⟨b, hb⟩ : ∃ b, b = (s == 2 || s == 3) := ⟨_, rfl⟩
  rw [← hb]
  by_cases h2 : s = 2
  · have HR : Hid (b = true) := Lib.hid (by rw [hb, h2]; rfl)
    subst h2
    clear hb
    go_enter Tryz.func45, Tryz.ntmps45
    go_wp2
    go_ret
    exact ⟨by first | (rw [HR.out]; done) | (rw [HR.out]; rfl), HB.out⟩
  have f2 : (s == 2) = false := by simpa using h2
  have HR : Hid (b = (s == 3)) := Lib.hid (by rw [hb, f2]; rfl)
  clear hb h2
  go_enter Tryz.func45, Tryz.ntmps45
  go_wp2
  go_ret
  exact ⟨by first | (rw [HR.out]; done) | (rw [HR.out]; rfl), HB.out⟩
theorem request_any (k : Int) (w : World) : Calls Tryz.prog 47 #[.int .i64 k] w (Bo w (k == 1 || k == 2 || k == 7 || k == 8)) := by
  obtain ⟨b, hb⟩ : ∃ b, b = (k == 1 || k == 2 || k == 7 || k == 8) := ⟨_, rfl⟩
  rw [← hb]
  by_cases e1 : k = 1
  · have HR : Hid (b = true) := Lib.hid (by rw [hb, e1]; rfl)
    subst e1
    clear hb
    go_enter Tryz.func47, Tryz.ntmps47
    go_wp2
    go_ret
    exact ⟨by first | (rw [HR.out]; done) | (rw [HR.out]; rfl), Below.refl _ _⟩
  have f1 : (k == 1) = false := by simpa using e1
  by_cases e2 : k = 2
  · have HR : Hid (b = true) := Lib.hid (by rw [hb, e2]; rfl)
    subst e2
    clear hb
    go_enter Tryz.func47, Tryz.ntmps47
    go_wp2
    go_ret
    exact ⟨by first | (rw [HR.out]; done) | (rw [HR.out]; rfl), Below.refl _ _⟩
  have f2 : (k == 2) = false := by simpa using e2
  by_cases e7 : k = 7
  · have HR : Hid (b = true) := Lib.hid (by rw [hb, e7]; rfl)
    subst e7
    clear hb
    go_enter Tryz.func47, Tryz.ntmps47
    go_wp2
    go_ret
    exact ⟨by first | (rw [HR.out]; done) | (rw [HR.out]; rfl), Below.refl _ _⟩
  have f7 : (k == 7) = false := by simpa using e7
  have HR : Hid (b = (k == 8)) := Lib.hid (by rw [hb, f1, f2, f7]; rfl)
  clear hb e1 e2 e7
  go_enter Tryz.func47, Tryz.ntmps47
  go_wp2
  go_ret
  exact ⟨by first | (rw [HR.out]; done) | (rw [HR.out]; rfl), Below.refl _ _⟩
end Go.Proofs.YthnbeebilomchaaGreatDoor

namespace Go.Proofs.YthnbeebilomchaaGreatDoor
open Go Go.RowKit

end Go.Proofs.YthnbeebilomchaaGreatDoor

namespace Go.Proofs.YthnbeebilomchaaGreatDoor
open Go Go.RowKit

/-- the names as an array -/
def methodVs : List Value := methodL.map strV
theorem methods_end {W : World} {tm : Array Value} {R : Ending → World → Prop} {g : Nat} {u0 u1 u2 u3 u4 u5 u6 u7 u8 u9 : Value} (h2 : tm.getD 0 undef = .pointer (some ⟨g, 0, none⟩)) (hB : Blk W g #[u0, u1, u2, u3, u4, u5, u6, u7, u8, u9] 76)
    (hR : R (.returned (.agg #[u0, u1, u2, u3, u4, u5, u6, u7, u8, u9])) W) : bodyPost Tryz.prog Tryz.f30 R .ret { tmps := tm, defers := [] } W := by
  have d0 := hB.cell 0
  have d1 := hB.cell 1
  have d2 := hB.cell 2
  have d3 := hB.cell 3
  have d4 := hB.cell 4
  have d5 := hB.cell 5
  have d6 := hB.cell 6
  have d7 := hB.cell 7
  have d8 := hB.cell 8
  have d9 := hB.cell 9
  simp only [List.getElem?_toArray, List.getElem?_cons_zero, List.getElem?_cons_succ] at d0 d1 d2 d3 d4 d5 d6 d7 d8 d9
  rw [Array.getD_eq_getD_getElem?] at h2
  refine bodyPost_ret (v := .agg #[u0, u1, u2, u3, u4, u5, u6, u7, u8, u9]) ?_ rfl hR
  simp [results, Tryz.results30, go_sem, h2, d0, d1, d2, d3, d4, d5, d6, d7, d8, d9]
theorem methods_any (w : World) : Calls Tryz.prog 30 #[] w (fun e w' => e = .returned (.agg methodVs.toArray) ∧ Below w.heap.size w w') := by
  go_enter Tryz.func30, Tryz.ntmps30
  go_wp2
  refine methods_end (g := w.heap.size) rfl (Blk.new rfl) ?_
  exact ⟨rfl, below_a1 _ _⟩
end Go.Proofs.YthnbeebilomchaaGreatDoor

namespace Go.Proofs.YthnbeebilomchaaGreatDoor
open Go Go.RowKit

/-- a value that is answered -/
def DocE (w : World) (v : V) (e : Ending) (w' : World) : Prop := ∃ d : VD, e = .returned (.agg #[.int .i64 d.sort, .bool d.on, .int .i64 d.n, .string ⟨d.text.toArray⟩, .slice d.a d.list.length d.c, .slice d.ka d.keys.length d.kc]) ∧ d.v = v ∧ ValAt w' (fun _ => True) d ∧ Below w.heap.size w w'
theorem row_blk {w : World} {g sz n : Nat} {xs : List Value} {T : TypeId} (h : Blk w g xs.toArray T) (hn : xs.length = n * sz) : Row w sz (some ⟨g, 0, none⟩) n xs :=
  ⟨hn, fun _ => ⟨g, 0, rfl, fun j _ => by rw [Nat.zero_add]; exact (h.cell j).trans (by simp)⟩⟩
end Go.Proofs.YthnbeebilomchaaGreatDoor

namespace Go.Proofs.YthnbeebilomchaaGreatDoor
open Go Go.RowKit

end Go.Proofs.YthnbeebilomchaaGreatDoor

namespace Go.Proofs.YthnbeebilomchaaGreatDoor
open Go Go.RowKit

end Go.Proofs.YthnbeebilomchaaGreatDoor

namespace Go.Proofs.YthnbeebilomchaaGreatDoor
open Go Go.RowKit

theorem val_cells {wr W : World} {b o : Nat} {x : VD} (hW : Below wr.heap.size wr W) (v0 : wr.cell? ⟨b, o, none⟩ = some (.int .i64 x.sort)) (v1 : wr.cell? ⟨b, o + 1, none⟩ = some (.bool x.on)) (v2 : wr.cell? ⟨b, o + 2, none⟩ = some (.int .i64 x.n)) (v3 : wr.cell? ⟨b, o + 3, none⟩ = some (strV x.text)) (v4 : wr.cell? ⟨b, o + 4, none⟩ = some (.slice x.a x.list.length x.c)) (v5 : wr.cell? ⟨b, o + 5, none⟩ = some (.slice x.ka x.keys.length x.kc)) :
    W.cell? ⟨b, o, none⟩ = some (.int .i64 x.sort) ∧ W.cell? ⟨b, o + 1, none⟩ = some (.bool x.on) ∧ W.cell? ⟨b, o + 2, none⟩ = some (.int .i64 x.n) ∧ W.cell? ⟨b, o + 3, none⟩ = some (.string ⟨x.text.toArray⟩) ∧ W.cell? ⟨b, o + 4, none⟩ = some (.slice x.a x.list.length x.c) ∧ W.cell? ⟨b, o + 5, none⟩ = some (.slice x.ka x.keys.length x.kc) :=
  ⟨below_ext hW v0, below_ext hW v1, below_ext hW v2, below_ext hW v3, below_ext hW v4, below_ext hW v5⟩
structure SBR (w W : World) (d e : VD) : Prop where
  one : Blk W w.heap.size #[.int .i64 d.sort, .bool d.on, .int .i64 d.n, .string ⟨d.text.toArray⟩, .slice d.a d.list.length d.c, .slice d.ka d.keys.length d.kc] 26
  two : Blk W (w.heap.size + 1) #[.int .i64 e.sort, .bool e.on, .int .i64 e.n, .string ⟨e.text.toArray⟩, .slice e.a e.list.length e.c, .slice e.ka e.keys.length e.kc] 26
  below : Below w.heap.size w W
theorem SBR.ext {w W W' : World} {d e : VD} (h : SBR w W d e) (hb : Below W.heap.size W W') : SBR w W' d e := ⟨h.one.ext hb, h.two.ext hb, h.below.trans (hb.mono h.below.size)⟩
set_option maxHeartbeats 8000000 in
theorem sameR_walk (d e : VD) (w : World) (hd : ValAt w (fun _ => True) d) (he : ValAt w (fun _ => True) e) (hs : sizeV d.v ≤ 1048576)
    (hc : ∀ W (j : Nat) x y, Below w.heap.size w W → d.list[j]? = some x → e.list[j]? = some y → Calls Tryz.prog 11 #[x.val, y.val] W (Ret W (IsB (x.v = y.v)))) :
    Calls Tryz.prog 11 #[d.val, e.val] w (Ret w (IsB (d.v = e.v))) := by
  obtain ⟨W0, hW0⟩ : ∃ W0, W0 = (w.alloc (.cells #[.int .i64 d.sort, .bool d.on, .int .i64 d.n, .string ⟨d.text.toArray⟩, .slice d.a d.list.length d.c, .slice d.ka d.keys.length d.kc] 26)).alloc (.cells #[.int .i64 e.sort, .bool e.on, .int .i64 e.n, .string ⟨e.text.toArray⟩, .slice e.a e.list.length e.c, .slice e.ka e.keys.length e.kc] 26) := ⟨_, rfl⟩
  have S0 : Hid (SBR w W0 d e) := Lib.hid (by rw [hW0]; exact ⟨(Blk.new rfl).alloc _, Blk.new (by simp), (below_a1 w _).alloc (by simp) _⟩)
  have hsz : sizeV (.mk d.sort d.on d.n d.text (d.list.map VD.v) d.keys) ≤ 1048576 := by rw [← VD.v_eq]; exact hs
  obtain ⟨s1, s2, s3, s4, s5⟩ := size_parts hsz
  rw [List.length_map] at s3
  clear s4 s5 hsz hs
  have HC := Lib.hid hc
  have HD := Lib.hid hd
  have HE := Lib.hid he
  have hk := strings_any d.ka e.ka d.kc e.kc d.keys e.keys W0 (HD.out.ext S0.out.below).krow (HE.out.ext S0.out.below).krow (by omega)
  have HK := Lib.hid hk
  rw [VD.val6, VD.val6]
  clear hd he hc hk
  go_enter Tryz.func11, Tryz.ntmps11
  go_upto_region 1 with (fail)
  rw [← hW0]
  clear hW0
  have hp := v_same d e
  generalize hP : (d.v = e.v) = P at *
  clear hP
  obtain ⟨c0, c1, c2, c3, c4, c5⟩ := S0.out.one.sixT
  obtain ⟨e0, e1, e2, e3, e4, e5⟩ := S0.out.two.sixT
  go_wp2_with fail
  refine HK.out.mono ?_
  rintro r W1 ⟨v, rfl, hb, bo, rfl, hbo⟩
  have S1 := Lib.hid (S0.out.ext hb)
  clear c0 c1 c2 c3 c4 c5 e0 e1 e2 e3 e4 e5 hb HK S0
  obtain ⟨c0, c1, c2, c3, c4, c5⟩ := S1.out.one.sixT
  obtain ⟨e0, e1, e2, e3, e4, e5⟩ := S1.out.two.sixT
  cases bo with
  | false =>
    have Hn : Hid (¬ P) := Lib.hid (fun h => by have := hbo.2 (hp.1 h).2.2.2.2.1; cases this)
    clear hbo hp
    go_wp2
    go_ret
    exact ⟨_, rfl, S1.out.below, isB_false Hn.out⟩
  | true =>
  have Hk : Hid (d.keys = e.keys) := Lib.hid (hbo.1 rfl)
  clear hbo
  by_cases a1 : d.sort = e.sort
  case neg =>
    have a1' : (d.sort == e.sort) = false := by simpa using a1
    have a1'' : (d.sort != e.sort) = true := by simpa using a1
    have Hn : Hid (¬ P) := Lib.hid (fun h => a1 (hp.1 h).1)
    clear hp a1
    go_wp2
    go_ret
    exact ⟨_, rfl, S1.out.below, isB_false Hn.out⟩
  have a1' : (d.sort == e.sort) = true := by simpa using a1
  have a1'' : (d.sort != e.sort) = false := by simpa using a1
  by_cases a2 : d.on = e.on
  case neg =>
    have a2' : (d.on == e.on) = false := by simpa using a2
    have a2'' : (d.on != e.on) = true := by simpa using a2
    have Hn : Hid (¬ P) := Lib.hid (fun h => a2 (hp.1 h).2.1)
    clear hp a2
    go_wp2
    go_ret
    exact ⟨_, rfl, S1.out.below, isB_false Hn.out⟩
  have a2' : (d.on == e.on) = true := by simpa using a2
  have a2'' : (d.on != e.on) = false := by simpa using a2
  by_cases a3 : d.n = e.n
  case neg =>
    have a3' : (d.n == e.n) = false := by simpa using a3
    have a3'' : (d.n != e.n) = true := by simpa using a3
    have Hn : Hid (¬ P) := Lib.hid (fun h => a3 (hp.1 h).2.2.1)
    clear hp a3
    go_wp2
    go_ret
    exact ⟨_, rfl, S1.out.below, isB_false Hn.out⟩
  have a3' : (d.n == e.n) = true := by simpa using a3
  have a3'' : (d.n != e.n) = false := by simpa using a3
  by_cases a4 : d.text = e.text
  case neg =>
    have a4' : (d.text == e.text) = false := by simpa using a4
    have a4'' : (d.text != e.text) = true := by simpa using a4
    have Hn : Hid (¬ P) := Lib.hid (fun h => a4 (hp.1 h).2.2.2.1)
    clear hp a4
    go_wp2
    go_ret
    exact ⟨_, rfl, S1.out.below, isB_false Hn.out⟩
  have a4' : (d.text == e.text) = true := by simpa using a4
  have a4'' : (d.text != e.text) = false := by simpa using a4
  have HP : Hid (P ↔ d.list.map VD.v = e.list.map VD.v) := Lib.hid (by rw [hp]; simp [a1, a2, a3, a4, Hk.out])
  clear hp a1 a2 a3 a4
  by_cases hn : d.list.length = e.list.length
  case neg =>
    have hn1 : ((d.list.length : Int) == (e.list.length : Int)) = false := by simp; omega
    have hn2 : ((d.list.length : Int) != (e.list.length : Int)) = true := by simp; omega
    have Hn : Hid (¬ P) := Lib.hid (fun h => hn (by have := congrArg List.length (HP.out.1 h); simpa using this))
    clear hn
    go_wp2
    go_ret
    exact ⟨_, rfl, S1.out.below, isB_false Hn.out⟩
  obtain ⟨nl, hnl⟩ : ∃ nl, nl = d.list.length := ⟨_, rfl⟩
  obtain ⟨ea, hea⟩ : ∃ ea, ea = d.a := ⟨_, rfl⟩
  obtain ⟨eb, heb⟩ : ∃ eb, eb = e.a := ⟨_, rfl⟩
  have hS1 : Blk W1 w.heap.size #[.int .i64 d.sort, .bool d.on, .int .i64 d.n, .string ⟨d.text.toArray⟩, .slice ea nl d.c, .slice d.ka d.keys.length d.kc] 26 ∧ Blk W1 (w.heap.size + 1) #[.int .i64 e.sort, .bool e.on, .int .i64 e.n, .string ⟨e.text.toArray⟩, .slice eb nl e.c, .slice e.ka e.keys.length e.kc] 26 := by
    rw [hnl, hea, heb]; exact ⟨S1.out.one, by rw [hn]; exact S1.out.two⟩
  have HS1 := Lib.hid hS1
  rw [← hn] at e4
  rw [← hnl] at c4 e4 s3
  rw [← hea] at c4
  rw [← heb] at e4
  rw [← hn, ← hnl, ← hea, ← heb]
  have HNL := Lib.hid hnl
  have HN2 := Lib.hid (hnl.trans hn)
  have HEA := Lib.hid hea
  have HEB := Lib.hid heb
  clear hn hnl hea heb hS1
  have hn1 : ((nl : Int) != (nl : Int)) = false := by simp
  go_wp2_with fail
  clear c0 c1 c2 c3 c4 c5 e0 e1 e2 e3 e4 e5 a1' a1'' a2' a2'' a3' a3'' a4' a4'' hn1
  go_loopw [6, 7] (fun i _ wr => ∃ k : Nat, k ≤ nl ∧ i = .int .i64 k ∧ Hid (Below W1.heap.size W1 wr ∧ ∀ j, j < k → (d.list.map VD.v)[j]? = (e.list.map VD.v)[j]?)) (fun i _ _ => nl - (intOf i).toNat)
  case atStart => exact ⟨0, Nat.zero_le _, rfl, Lib.hid ⟨Below.refl _ _, fun j h => by omega⟩⟩
  case round =>
    obtain ⟨k, hk, rfl, hq⟩ := hrel
    obtain ⟨c0, c1, c2, c3, c4, c5⟩ := (HS1.out.1.ext hq.out.1).sixT
    obtain ⟨e0, e1, e2, e3, e4, e5⟩ := (HS1.out.2.ext hq.out.1).sixT
    by_cases hlt : k < nl
    · obtain ⟨x, hx⟩ := get_some (l := d.list) (i := k) (by have := HNL.out; omega)
      obtain ⟨y, hy⟩ := get_some (l := e.list) (i := k) (by have := HN2.out; omega)
      have hbw := S1.out.below.trans (hq.out.1.mono S1.out.below.size)
      obtain ⟨ab, ao, hda, v0, v1, v2, v3, v4, v5⟩ := val_at (HD.out.ext hbw).row hx
      obtain ⟨bb, bo, hdb, u0, u1, u2, u3, u4, u5⟩ := val_at (HE.out.ext hbw).row hy
      rw [← HEA.out] at hda
      rw [← HEB.out] at hdb
      subst hda hdb
      have HCX : Hid (∀ W, Below wr.heap.size wr W → Calls Tryz.prog 11 #[.agg #[.int .i64 x.sort, .bool x.on, .int .i64 x.n, .string ⟨x.text.toArray⟩, .slice x.a x.list.length x.c, .slice x.ka x.keys.length x.kc], .agg #[.int .i64 y.sort, .bool y.on, .int .i64 y.n, .string ⟨y.text.toArray⟩, .slice y.a y.list.length y.c, .slice y.ka y.keys.length y.kc]] W (Ret W (IsB (x.v = y.v)))) := Lib.hid fun W hW => by
        have := HC.out W k x y (hbw.trans (hW.mono hbw.size)) hx hy
        rwa [VD.val6, VD.val6] at this
      have Hx := Lib.hid hx
      have Hy := Lib.hid hy
      have HS : Hid (∀ w', Below wr.heap.size wr w' → w'.cell? ⟨w.heap.size, 4, none⟩ = some (.slice (some ⟨ab, ao, none⟩) nl d.c) ∧ w'.cell? ⟨w.heap.size + 1, 4, none⟩ = some (.slice (some ⟨bb, bo, none⟩) nl e.c) ∧ (w'.cell? ⟨ab, ao + k * 6, none⟩ = some (.int .i64 x.sort) ∧ w'.cell? ⟨ab, ao + k * 6 + 1, none⟩ = some (.bool x.on) ∧ w'.cell? ⟨ab, ao + k * 6 + 2, none⟩ = some (.int .i64 x.n) ∧ w'.cell? ⟨ab, ao + k * 6 + 3, none⟩ = some (.string ⟨x.text.toArray⟩) ∧ w'.cell? ⟨ab, ao + k * 6 + 4, none⟩ = some (.slice x.a x.list.length x.c) ∧ w'.cell? ⟨ab, ao + k * 6 + 5, none⟩ = some (.slice x.ka x.keys.length x.kc)) ∧ (w'.cell? ⟨bb, bo + k * 6, none⟩ = some (.int .i64 y.sort) ∧ w'.cell? ⟨bb, bo + k * 6 + 1, none⟩ = some (.bool y.on) ∧ w'.cell? ⟨bb, bo + k * 6 + 2, none⟩ = some (.int .i64 y.n) ∧ w'.cell? ⟨bb, bo + k * 6 + 3, none⟩ = some (.string ⟨y.text.toArray⟩) ∧ w'.cell? ⟨bb, bo + k * 6 + 4, none⟩ = some (.slice y.a y.list.length y.c) ∧ w'.cell? ⟨bb, bo + k * 6 + 5, none⟩ = some (.slice y.ka y.keys.length y.kc))) := Lib.hid fun w' hW => ⟨below_ext hW c4, below_ext hW e4, val_cells hW v0 v1 v2 v3 v4 v5, val_cells hW u0 u1 u2 u3 u4 u5⟩
      have hkl : (k : Int) < nl := by omega
      clear hx hy hbw v0 v1 v2 v3 v4 v5 u0 u1 u2 u3 u4 u5
      go_upto_region 7 with (fail)
      refine wp_region_held_drew (S := fun w' => w'.cell? ⟨w.heap.size, 4, none⟩ = some (.slice (some ⟨ab, ao, none⟩) nl d.c) ∧ w'.cell? ⟨w.heap.size + 1, 4, none⟩ = some (.slice (some ⟨bb, bo, none⟩) nl e.c) ∧ (w'.cell? ⟨ab, ao + k * 6, none⟩ = some (.int .i64 x.sort) ∧ w'.cell? ⟨ab, ao + k * 6 + 1, none⟩ = some (.bool x.on) ∧ w'.cell? ⟨ab, ao + k * 6 + 2, none⟩ = some (.int .i64 x.n) ∧ w'.cell? ⟨ab, ao + k * 6 + 3, none⟩ = some (.string ⟨x.text.toArray⟩) ∧ w'.cell? ⟨ab, ao + k * 6 + 4, none⟩ = some (.slice x.a x.list.length x.c) ∧ w'.cell? ⟨ab, ao + k * 6 + 5, none⟩ = some (.slice x.ka x.keys.length x.kc)) ∧ (w'.cell? ⟨bb, bo + k * 6, none⟩ = some (.int .i64 y.sort) ∧ w'.cell? ⟨bb, bo + k * 6 + 1, none⟩ = some (.bool y.on) ∧ w'.cell? ⟨bb, bo + k * 6 + 2, none⟩ = some (.int .i64 y.n) ∧ w'.cell? ⟨bb, bo + k * 6 + 3, none⟩ = some (.string ⟨y.text.toArray⟩) ∧ w'.cell? ⟨bb, bo + k * 6 + 4, none⟩ = some (.slice y.a y.list.length y.c) ∧ w'.cell? ⟨bb, bo + k * 6 + 5, none⟩ = some (.slice y.ka y.keys.length y.kc))) (by kernel_rfl) ?_ (fun hHeld => ?_)
      · exact HS.out _ (Below.refl _ _).drew
      refine wpAnyH_take (i := 0) (oi := ⟨some 59, _, _, _, _, _⟩) (v := ?_) rfl (by kernel_rfl) (by kernel_rfl) (by kernel_rfl) (fun _ _ _ h => h) (Or.inl ⟨by rfl, ?_⟩) (by assumption) ?_; rotate_left; focus (intro w hSw; (try dsimp only at hSw); first | (go_simp; done) | (go_simp; with_reducible rfl))
      try simp only [Act.put]
      try simp only [List.setIfInBounds_toArray]
      try simp only [List.set_cons_succ, List.set_cons_zero]
      refine wpAnyH_take (i := 1) (oi := ⟨some 60, _, _, _, _, _⟩) (v := ?_) rfl (by kernel_rfl) (by kernel_rfl) (by kernel_rfl) (fun _ _ _ h => h) (Or.inl ⟨by rfl, ?_⟩) (by assumption) ?_; rotate_left; focus (intro w hSw; (try dsimp only at hSw); obtain ⟨q4, r4, ⟨a0, a1, a2, a3, a4, a5⟩, b0, b1, b2, b3, b4, b5⟩ := hSw; first | (go_simp; done) | (go_simp; with_reducible rfl))
      try simp only [Act.put]
      try simp only [List.setIfInBounds_toArray]
      try simp only [List.set_cons_succ, List.set_cons_zero]
      refine wpAnyH_take (i := 2) (oi := ⟨some 61, _, _, _, _, _⟩) (v := ?_) rfl (by kernel_rfl) (by kernel_rfl) (by kernel_rfl) (fun _ _ _ h => h) (Or.inl ⟨by rfl, ?_⟩) (by assumption) ?_; rotate_left; focus (intro w hSw; (try dsimp only at hSw); first | (go_simp; done) | (go_simp; with_reducible rfl))
      try simp only [Act.put]
      try simp only [List.setIfInBounds_toArray]
      try simp only [List.set_cons_succ, List.set_cons_zero]
      refine wpAnyH_take (i := 3) (oi := ⟨some 62, _, _, _, _, _⟩) (v := ?_) rfl (by kernel_rfl) (by kernel_rfl) (by kernel_rfl) (fun _ _ _ h => h) (Or.inl ⟨by rfl, ?_⟩) (by assumption) ?_; rotate_left; focus (intro w hSw; (try dsimp only at hSw); first | (go_simp; done) | (go_simp; with_reducible rfl))
      try simp only [Act.put]
      try simp only [List.setIfInBounds_toArray]
      try simp only [List.set_cons_succ, List.set_cons_zero]
      refine wpAnyH_take (i := 4) (oi := ⟨some 63, _, _, _, _, _⟩) (v := ?_) rfl (by kernel_rfl) (by kernel_rfl) (by kernel_rfl) (fun _ _ _ h => h) (Or.inl ⟨by rfl, ?_⟩) (by assumption) ?_; rotate_left; focus (intro w hSw; (try dsimp only at hSw); obtain ⟨q4, r4, ⟨a0, a1, a2, a3, a4, a5⟩, b0, b1, b2, b3, b4, b5⟩ := hSw; first | (go_simp; done) | (go_simp; with_reducible rfl))
      try simp only [Act.put]
      try simp only [List.setIfInBounds_toArray]
      try simp only [List.set_cons_succ, List.set_cons_zero]
      refine wpAnyH_take (i := 5) (oi := ⟨some 64, _, _, _, _, _⟩) (v := ?_) rfl (by kernel_rfl) (by kernel_rfl) (by kernel_rfl) (fun _ _ _ h => h) (Or.inl ⟨by rfl, ?_⟩) (by assumption) ?_; rotate_left; focus (intro w hSw; (try dsimp only at hSw); first | (go_simp; done) | (go_simp; with_reducible rfl))
      try simp only [Act.put]
      try simp only [List.setIfInBounds_toArray]
      try simp only [List.set_cons_succ, List.set_cons_zero]
      refine wpAnyH_take (i := 6) (oi := ⟨some 65, _, _, _, _, _⟩) (v := ?_) rfl (by kernel_rfl) (by kernel_rfl) (by kernel_rfl) (fun _ _ _ h => h) (Or.inl ⟨by rfl, ?_⟩) (by assumption) ?_; rotate_left; focus (intro w hSw; (try dsimp only at hSw); obtain ⟨q4, r4, ⟨a0, a1, a2, a3, a4, a5⟩, b0, b1, b2, b3, b4, b5⟩ := hSw; first | (go_simp; done) | (go_simp; with_reducible rfl))
      try simp only [Act.put]
      try simp only [List.setIfInBounds_toArray]
      try simp only [List.set_cons_succ, List.set_cons_zero]
      refine wpAnyH_take (i := 7) (oi := ⟨some 66, _, _, _, _, _⟩) (v := ?_) rfl (by kernel_rfl) (by kernel_rfl) (by kernel_rfl) (fun _ _ _ h => h) (Or.inl ⟨by rfl, ?_⟩) (by assumption) ?_; rotate_left; focus (intro w hSw; (try dsimp only at hSw); first | (go_simp; done) | (go_simp; with_reducible rfl))
      try simp only [Act.put]
      try simp only [List.setIfInBounds_toArray]
      try simp only [List.set_cons_succ, List.set_cons_zero]
      refine wpAnyH_take (i := 8) (oi := ⟨some 67, _, _, _, _, _⟩) (v := ?_) rfl (by kernel_rfl) (by kernel_rfl) (by kernel_rfl) (fun _ _ _ h => h) (Or.inl ⟨by rfl, ?_⟩) (by assumption) ?_; rotate_left; focus (intro w hSw; (try dsimp only at hSw); first | (go_simp; done) | (go_simp; with_reducible rfl))
      try simp only [Act.put]
      try simp only [List.setIfInBounds_toArray]
      try simp only [List.set_cons_succ, List.set_cons_zero]
      refine wpAnyH_take (i := 9) (oi := ⟨some 68, _, _, _, _, _⟩) (v := ?_) rfl (by kernel_rfl) (by kernel_rfl) (by kernel_rfl) (fun _ _ _ h => h) (Or.inl ⟨by rfl, ?_⟩) (by assumption) ?_; rotate_left; focus (intro w hSw; (try dsimp only at hSw); obtain ⟨q4, r4, ⟨a0, a1, a2, a3, a4, a5⟩, b0, b1, b2, b3, b4, b5⟩ := hSw; first | (go_simp; done) | (go_simp; with_reducible rfl))
      try simp only [Act.put]
      try simp only [List.setIfInBounds_toArray]
      try simp only [List.set_cons_succ, List.set_cons_zero]
      refine wpAnyH_ready (rs := [10]) (by kernel_rfl) (by simp) ?_
      refine AllReadyH.cons (i := 10) (o := ⟨some 69, _, _, _, _, _⟩) rfl (fun K hK => ?_) ?_
      · go_simp
        refine (HCX.out _ (Below.refl _ _).drew).mono ?_
        rintro r W2 ⟨v, rfl, hb2, bq, rfl, hbo⟩
        have HB2 : Hid (Below wr.heap.size wr W2) := Lib.hid ((Below.refl _ _).drew.trans hb2)
        have HQ2 := Lib.hid (hq.out.1.trans (HB2.out.mono hq.out.1.size))
        have HBO := Lib.hid hbo
        clear hb2 hbo
        refine hK.out _ _ ?_ (fun hHeld => ?_)
        · exact HS.out _ HB2.out
        try simp only [Act.put]
        try simp only [List.setIfInBounds_toArray]
        try simp only [List.set_cons_succ, List.set_cons_zero]
        refine wpAnyH_take (i := 11) (oi := ⟨some 7, _, _, _, _, _⟩) (v := ?_) rfl (by kernel_rfl) (by kernel_rfl) (by kernel_rfl) (fun _ _ _ h => h) (Or.inl ⟨by rfl, ?_⟩) (by assumption) ?_; rotate_left; focus (intro w hSw; (try dsimp only at hSw); first | (go_simp; done) | (go_simp; with_reducible rfl))
        try simp only [Act.put]
        try simp only [List.setIfInBounds_toArray]
        try simp only [List.set_cons_succ, List.set_cons_zero]
        refine wpAnyH_done (by kernel_rfl) ?_ _
        clear hHeld
        cases bq with
        | true =>
          have Hxy : Hid (x.v = y.v) := Lib.hid (HBO.out.1 rfl)
          go_wp2
          go_roundw
          case rel =>
            refine ⟨k + 1, by omega, by go_num, Lib.hid ⟨HQ2.out, fun j hj => ?_⟩⟩
            rcases Nat.lt_or_ge j k with h | h
            · exact hq.out.2 j h
            · obtain rfl : j = k := by omega
              rw [List.getElem?_map, List.getElem?_map, Hx.out, Hy.out, Option.map_some, Option.map_some, Hxy.out]
          case measure => simp [intOf]; omega
        | false =>
          have Hxy : Hid (x.v ≠ y.v) := Lib.hid (fun h => by have := HBO.out.2 h; cases this)
          go_wp2
          go_ret
          exact ⟨_, rfl, S1.out.below.trans (HQ2.out.mono S1.out.below.size), isB_false fun h => Hxy.out (by
            have h2 := congrArg (fun z => z[k]?) (HP.out.1 h)
            simp only [List.getElem?_map, Hx.out, Hy.out, Option.map_some] at h2
            exact Option.some.inj h2)⟩
      exact AllReadyH.nil
    · obtain rfl : k = nl := by omega
      have HF : Hid P := Lib.hid (HP.out.2 (List.ext_getElem? fun i => by rcases Nat.lt_or_ge i k with h | h; exact hq.out.2 i h; rw [List.getElem?_eq_none (by rw [List.length_map]; have := HNL.out; omega), List.getElem?_eq_none (by rw [List.length_map]; have := HN2.out; omega)]))
      go_wp2
      go_ret
      exact ⟨_, rfl, S1.out.below.trans (hq.out.1.mono S1.out.below.size), isB_true HF.out⟩
theorem sameR_any : ∀ (d e : VD) (w : World), ValAt w (fun _ => True) d → ValAt w (fun _ => True) e → sizeV d.v ≤ 1048576 → Calls Tryz.prog 11 #[d.val, e.val] w (Ret w (IsB (d.v = e.v))) := by
  intro d
  induction d using VD.ind with
  | h s o n t a c l ka kc ks ih =>
    intro e w hd he hs
    refine sameR_walk _ e w hd he hs fun W j x y hb hx hy => ?_
    have hxm : x ∈ l := List.mem_of_getElem? hx
    have hsz := (size_parts (by rw [VD.v_eq] at hs; exact hs)).2.2.2.2
    exact ih x hxm y W ((hd.kid x hxm).ext hb) ((he.kid y (List.mem_of_getElem? hy)).ext hb) (hsz x.v (List.mem_map_of_mem hxm))
end Go.Proofs.YthnbeebilomchaaGreatDoor

namespace Go.Proofs.YthnbeebilomchaaGreatDoor
open Go Go.RowKit

structure GBR (w W : World) (e : VD) : Prop where
  val : Blk W w.heap.size #[.int .i64 e.sort, .bool e.on, .int .i64 e.n, .string ⟨e.text.toArray⟩, .slice e.a e.list.length e.c, .slice e.ka e.keys.length e.kc] 26
  res : Blk W (w.heap.size + 1) #[.int .i64 0, .bool false, .int .i64 0, .string { data := #[] }, .slice none 0 0, .slice none 0 0] 26
  below : Below w.heap.size w W
theorem GBR.ext {w W W' : World} {e : VD} (h : GBR w W e) (hb : Below W.heap.size W W') : GBR w W' e := ⟨h.val.ext hb, h.res.ext hb, h.below.trans (hb.mono h.below.size)⟩
/-- where a name was found so far -/
def Fnd (ks : List Nm) (x : Nm) (q : Nat) (at' : Int) : Prop := (at' = -1 ∧ ∀ j, j < q → ks[j]? ≠ some x) ∨ (∃ j : Nat, j < q ∧ at' = (j : Int) ∧ ks[j]? = some x ∧ ∀ i, i < j → ks[i]? ≠ some x)
theorem Fnd.zero (ks : List Nm) (x : Nm) : Fnd ks x 0 (-1) := .inl ⟨rfl, fun _ h => by omega⟩
theorem Fnd.skip {ks : List Nm} {x : Nm} {q : Nat} {a : Int} (h : Fnd ks x q a) (hn : ks[q]? ≠ some x) : Fnd ks x (q + 1) a := by
  rcases h with ⟨h1, h2⟩ | ⟨j, h1, h2⟩
  · exact .inl ⟨h1, fun j hj => by rcases Nat.lt_or_ge j q with h | h; exact h2 j h; obtain rfl : j = q := by omega
                                   exact hn⟩
  · exact .inr ⟨j, by omega, h2⟩
theorem Fnd.keep {ks : List Nm} {x : Nm} {q : Nat} {a : Int} (h : Fnd ks x q a) (hn : ¬ a < 0) : Fnd ks x (q + 1) a := by
  rcases h with ⟨h1, h2⟩ | ⟨j, h1, h2⟩
  · omega
  · exact .inr ⟨j, by omega, h2⟩
theorem stepV_eq (e : VD) (x : Nm) : stepV e.v x = if e.sort = 5 then (indexK x e.keys).bind fun i => (e.list.map VD.v)[i]? else none := by unfold stepV; rw [VD.v_eq]; rfl
theorem Fnd.none {e : VD} {x : Nm} {q : Nat} {a : Int} (h : Fnd e.keys x q a) (ha : a < 0) (hq : e.sort ≠ 5 ∨ e.keys.length ≤ q ∨ e.list.length ≤ q) : stepV e.v x = none := by
  rw [stepV_eq]
  by_cases h5 : e.sort = 5
  · rw [if_pos h5]
    rcases h with ⟨-, h2⟩ | ⟨j, -, h2, -⟩
    · cases hi : indexK x e.keys with
      | none => rfl
      | some i =>
        obtain ⟨h3, -⟩ := indexK_some hi
        have h4 := get_lt h3
        rw [Option.bind_some]
        rcases hq with hq | hq | hq
        · exact absurd h5 hq
        · exact absurd h3 (h2 i (by omega))
        · rw [List.getElem?_eq_none]
          rw [List.length_map]
          rcases Nat.lt_or_ge i q with h | h
          · exact absurd h3 (h2 i h)
          · omega
    · omega
  · rw [if_neg h5]
theorem Fnd.some {e : VD} {x : Nm} {q : Nat} {a : Int} (h : Fnd e.keys x q a) (ha : ¬ a < 0) (h5 : e.sort = 5) (hq : q ≤ e.list.length) : ∃ (j : Nat) (y : VD), a = (j : Int) ∧ e.list[j]? = some y ∧ stepV e.v x = some y.v := by
  rw [stepV_eq, if_pos h5]
  rcases h with ⟨h1, h2⟩ | ⟨j, h1, h2, h3, h4⟩
  · omega
  · rw [indexK_first h3 h4, Option.bind_some]
    obtain ⟨y, hy⟩ := get_some (l := e.list) (i := j) (by omega)
    exact ⟨j, y, h2, hy, by rw [List.getElem?_map, hy]; rfl⟩
end Go.Proofs.YthnbeebilomchaaGreatDoor

namespace Go.Proofs.YthnbeebilomchaaGreatDoor
open Go Go.RowKit

theorem vd_text (x : VD) : x.v.text = x.text := by cases x; rfl
theorem vd_n (x : VD) : x.v.n = x.n := by cases x; rfl
theorem vd_sort (x : VD) : x.v.sort = x.sort := by cases x; rfl

end Go.Proofs.YthnbeebilomchaaGreatDoor

namespace Go.Proofs.YthnbeebilomchaaGreatDoor
open Go Go.RowKit

section
variable {P : Program} {ops : Array Oper} {Q : Exit → Act → World → Prop} {md : Region.Mode}

/-- every edge leads back -/
def edgesBack (md : Region.Mode) (ops : Array Oper) : Bool :=
  (List.range ops.size).all fun i => ((ops[i]?).map fun o => o.after.all fun e => !Region.binds md e || decide (e.on < i)).getD true
/-- what an operation waits for -/
def depsOf (md : Region.Mode) (o : Oper) : List Nat := (o.after.toList.filter fun e => Region.binds md e).map (·.on)
/-- one more has come up -/
def updD (D : Nat → Bool) (i : Nat) : Nat → Bool := fun k => if k = i then true else D k
theorem updD_self (D : Nat → Bool) (i : Nat) : updD D i i = true := by simp [updD]
theorem updD_ne (D : Nat → Bool) {i k : Nat} (h : k ≠ i) : updD D i k = D k := by simp [updD, h]

/-- what has come up had what it waits for -/
def closedD (md : Region.Mode) (ops : Array Oper) (D : Nat → Bool) : Prop := ∀ (j : Nat) o, ops[j]? = some o → D j = true → ∀ k ∈ depsOf md o, D k = true
/-- one operation keeps what is held -/
def InvStep (P : Program) (md : Region.Mode) (ops : Array Oper) (Q : Exit → Act → World → Prop) (I : (Nat → Bool) → Act → World → Prop) (i : Nat) (o : Oper) : Prop :=
  ∀ D a w, D i = false → (∀ k ∈ depsOf md o, D k = true) → closedD md ops D → I D a w → ∀ K : Act → World → Prop, Shut (∀ a' w', I (updD D i) a' w' → K a' w') →
    if Region.wanted o (yielded ops a.tmps) = true then o.wp P a w K Q else K (a.put o.dst undef) w
def InvAll (P : Program) (md : Region.Mode) (ops : Array Oper) (Q : Exit → Act → World → Prop) (I : (Nat → Bool) → Act → World → Prop) : Nat → List Oper → Prop
  | _, [] => True
  | i, o :: l => InvStep P md ops Q I i o ∧ InvAll P md ops Q I (i + 1) l
theorem InvAll.cons {I : (Nat → Bool) → Act → World → Prop} {i : Nat} {o : Oper} {l : List Oper} (h : InvStep P md ops Q I i o) (hl : InvAll P md ops Q I (i + 1) l) : InvAll P md ops Q I i (o :: l) := ⟨h, hl⟩
theorem InvAll.nil {I : (Nat → Bool) → Act → World → Prop} {i : Nat} : InvAll P md ops Q I i [] := trivial
theorem InvAll.get {I : (Nat → Bool) → Act → World → Prop} : ∀ {l : List Oper} {i : Nat}, InvAll P md ops Q I i l → ∀ k o, l[k]? = some o → InvStep P md ops Q I (i + k) o
  | [], _, _, k, o, hk => by simp at hk
  | x :: l, i, h, 0, o, hk => by simp at hk; subst hk; exact h.1
  | x :: l, i, h, k + 1, o, hk => by
    have := InvAll.get h.2 k o (by simpa using hk)
    rwa [show i + 1 + k = i + (k + 1) from by omega] at this

/-- how many have not come up -/
def leftN (n : Nat) (D : Nat → Bool) : Nat := ((List.range n).filter fun i => !D i).length
theorem leftN_zero {n : Nat} {D : Nat → Bool} (h : leftN n D = 0) : ∀ i, i < n → D i = true := by
  intro i hi
  unfold leftN at h
  have := List.eq_nil_of_length_eq_zero h
  rw [List.filter_eq_nil_iff] at this
  simpa using this i (List.mem_range.2 hi)
theorem leftN_upd {n : Nat} {D : Nat → Bool} {i : Nat} (hi : i < n) (hD : D i = false) : leftN n (updD D i) + 1 = leftN n D := by
  unfold leftN
  have : ∀ l : List Nat, l.Nodup → ((l.filter fun k => !D k).length = (l.filter fun k => !updD D i k).length + (if i ∈ l then 1 else 0)) := by
    intro l
    induction l with
    | nil => simp
    | cons x l ih =>
      intro hn
      rw [List.nodup_cons] at hn
      have ih := ih hn.2
      by_cases hx : x = i
      · subst hx
        rw [List.filter_cons, List.filter_cons, updD_self, hD]
        rw [if_neg hn.1] at ih
        simp
        simpa using ih
      · rw [List.filter_cons, List.filter_cons, updD_ne D hx]
        have hm : (i ∈ x :: l) ↔ (i ∈ l) := by simp [Ne.symm hx]
        cases D x <;> simp [hm, ih] <;> omega
  have h := this (List.range n) List.nodup_range
  rw [if_pos (List.mem_range.2 hi)] at h
  omega

def closedB (md : Region.Mode) (ops : Array Oper) (D : Nat → Bool) : Bool := (List.range ops.size).all fun j => !D j || ((ops[j]?).map fun o => (depsOf md o).all D).getD true
theorem closedB_spec {D : Nat → Bool} (h : closedB md ops D = true) : closedD md ops D := by
  intro j o ho hj k hk
  have h1 := List.all_eq_true.1 h j (List.mem_range.2 (Array.getElem?_eq_some_iff.1 ho).1)
  rw [hj, ho] at h1
  simp only [Bool.not_true, Bool.false_or, Option.map_some, Option.getD_some] at h1
  exact List.all_eq_true.1 h1 k hk
theorem wpAnyH_inv {S : World → Prop} {I : (Nat → Bool) → Act → World → Prop} (hback : edgesBack md ops = true) (hIS : ∀ D a w, I D a w → S w) (hall : InvAll P md ops Q I 0 ops.toList)
    (hend : ∀ D a w, (∀ i, i < ops.size → D i = true) → I D a w → Q .normal a w) :
    ∀ (fuel : Nat) (listed : Array Bool) (D : Nat → Bool) (a : Act) (w : World), listed.size = ops.size → (∀ i, i < ops.size → listed[i]? = some (D i)) → closedD md ops D → leftN ops.size D ≤ fuel → I D a w → wpAnyH P md ops Q S fuel listed a w := by
  have hrd : ∀ (listed : Array Bool) (D : Nat → Bool), listed.size = ops.size → (∀ i, i < ops.size → listed[i]? = some (D i)) → Region.ready md ops listed = [] → ∀ i, i < ops.size → D i = true := by
    intro listed D hs hl hr i
    induction i using Nat.strongRecOn with
    | ind i ih =>
      intro hi
      cases hD : D i with
      | true => rfl
      | false =>
        have hmem : i ∈ Region.ready md ops listed := by
          rw [mem_ready]
          refine ⟨by rw [Array.getD_eq_getD_getElem?, hl i hi, hD]; rfl, ops[i], Array.getElem?_eq_getElem hi, fun e he hb => ?_⟩
          have h1 := List.all_eq_true.1 hback i (List.mem_range.2 hi)
          rw [Array.getElem?_eq_getElem hi, Option.map_some, Option.getD_some, Array.all_eq_true_iff_forall_mem] at h1
          have h2 := h1 e he
          rw [hb] at h2
          have h3 : e.on < i := by simpa using h2
          rw [Array.getD_eq_getD_getElem?, hl e.on (by omega), ih e.on h3 (by omega)]; rfl
        rw [hr] at hmem
        cases hmem
  intro fuel
  induction fuel with
  | zero =>
    intro listed D a w hs hl hc hf hI
    have hz := leftN_zero (Nat.le_zero.1 hf)
    refine ⟨?_, hend D a w hz hI⟩
    rw [List.eq_nil_iff_forall_not_mem]
    intro i hi
    obtain ⟨h0, o, ho, -⟩ := mem_ready.1 hi
    have hi' := (Array.getElem?_eq_some_iff.1 ho).1
    rw [Array.getD_eq_getD_getElem?, hl i hi', hz i hi'] at h0
    cases h0
  | succ fuel ih =>
    intro listed D a w hs hl hc hf hI
    refine ⟨fun hr => hend D a w (hrd listed D hs hl hr) hI, fun i hi => ?_⟩
    obtain ⟨h0, o, ho, hdep⟩ := mem_ready.1 hi
    have hi' := (Array.getElem?_eq_some_iff.1 ho).1
    have hD : D i = false := by rw [Array.getD_eq_getD_getElem?, hl i hi'] at h0; exact h0
    have hst := hall.get i o (by rw [Array.getElem?_toList]; exact ho)
    rw [Nat.zero_add] at hst
    have hdp : ∀ k ∈ depsOf md o, D k = true := by
      intro k hk
      simp only [depsOf, List.mem_map, List.mem_filter, Array.mem_toList_iff] at hk
      obtain ⟨e, ⟨he, hb⟩, rfl⟩ := hk
      have h1 := hdep e he hb
      rcases Nat.lt_or_ge e.on ops.size with h2 | h2
      · rw [Array.getD_eq_getD_getElem?, hl e.on h2] at h1; exact h1
      · rw [Array.getD_eq_getD_getElem?, Array.getElem?_eq_none (by omega)] at h1; cases h1
    refine wpOp_step ho fun K hK => hst D a w hD hdp hc hI K fun a' w' hI' => hK a' w' ⟨hIS _ _ _ hI', ?_⟩
    · refine ih _ (updD D i) a' w' (by simpa using hs) (fun k hk => ?_) (fun j o' hj hDj k hk => ?_) (by have := leftN_upd hi' hD; omega) hI'
      by_cases hki : k = i
      · subst hki; rw [updD_self, Array.getElem?_setIfInBounds_self_of_lt (by omega)]
      · rw [updD_ne D hki, Array.getElem?_setIfInBounds_ne (Ne.symm hki)]; exact hl k hk
      · have hup : ∀ k, D k = true → updD D i k = true := fun k hk => by
          unfold updD
          split
          · rfl
          · exact hk
        by_cases hji : j = i
        · subst hji
          rw [ho] at hj; cases hj
          exact hup k (hdp k hk)
        · rw [updD_ne D hji] at hDj
          exact hup k (hc j o' hj hDj k hk)

/-! ### a frame in which some slots are letters -/
def setAll (a : Act) (sl : List Nat) (s : Nat → Value) : Act := sl.foldl (fun a j => a.put (some j) (s j)) a
def updS (s : Nat → Value) (d : Option Nat) (v : Value) : Nat → Value := match d with
  | some j => fun k => if k = j then v else s k
  | none => s
theorem updS_self (s : Nat → Value) (j : Nat) (v : Value) : updS s (some j) v j = v := by simp [updS]
theorem updS_ne (s : Nat → Value) {j k : Nat} (v : Value) (h : k ≠ j) : updS s (some j) v k = s k := by simp [updS, h]
theorem setAll_defers (s : Nat → Value) : ∀ (sl : List Nat) (a : Act), (setAll a sl s).defers = a.defers
  | [], _ => rfl
  | j :: sl, a => by
    have := setAll_defers s sl (a.put (some j) (s j))
    exact this
theorem setAll_size (s : Nat → Value) : ∀ (sl : List Nat) (a : Act), (setAll a sl s).tmps.size = a.tmps.size
  | [], _ => rfl
  | j :: sl, a => by
    have := setAll_size s sl (a.put (some j) (s j))
    rw [show setAll a (j :: sl) s = setAll (a.put (some j) (s j)) sl s from rfl, this]
    simp [Act.put]
theorem setAll_get (s : Nat → Value) : ∀ (sl : List Nat) (a : Act) (k : Nat), (setAll a sl s).tmps[k]? = if k ∈ sl ∧ k < a.tmps.size then some (s k) else a.tmps[k]?
  | [], _, _ => by simp [setAll]
  | j :: sl, a, k => by
    rw [show setAll a (j :: sl) s = setAll (a.put (some j) (s j)) sl s from rfl, setAll_get s sl (a.put (some j) (s j)) k]
    simp only [Act.put, Array.size_setIfInBounds, Array.getElem?_setIfInBounds, List.mem_cons]
    by_cases h1 : k < a.tmps.size
    · by_cases h2 : k ∈ sl
      · simp [h1, h2]
      · by_cases h3 : k = j
        · subst h3; simp [h1, h2]
        · simp [h1, h2, h3, Ne.symm h3]
    · simp only [h1, and_false, if_false]
      by_cases h3 : j = k
      · subst h3; simp [h1]
      · simp [h3]
theorem act_ext {a b : Act} (ht : ∀ k : Nat, a.tmps[k]? = b.tmps[k]?) (hd : a.defers = b.defers) : a = b := by
  obtain ⟨t, d⟩ := a
  obtain ⟨t', d'⟩ := b
  simp only at ht hd
  subst hd
  have : t = t' := Array.ext_getElem? ht
  rw [this]
theorem setAll_put (s : Nat → Value) (sl : List Nat) (a : Act) {d : Option Nat} (hd : d.all (fun j => sl.contains j) = true) (v : Value) : (setAll a sl s).put d v = setAll a sl (updS s d v) := by
  cases d with
  | none => rfl
  | some j =>
    have hj : j ∈ sl := by simpa using hd
    refine act_ext (fun k => ?_) (by rw [setAll_defers]; exact setAll_defers s sl a)
    rw [setAll_get]
    simp only [Act.put, Array.getElem?_setIfInBounds, setAll_size]
    by_cases hk : j = k
    · subst hk
      by_cases h1 : j < a.tmps.size
      · simp [h1, hj, updS_self]
      · simp [h1]
    · rw [if_neg hk, setAll_get]
      by_cases h1 : k ∈ sl ∧ k < a.tmps.size
      · rw [if_pos h1, if_pos h1, updS_ne s v (Ne.symm hk)]
      · rw [if_neg h1, if_neg h1]
theorem setAll_own (sl : List Nat) (a : Act) : setAll a sl (fun j => a.tmps.getD j undef) = a := by
  refine act_ext (fun k => ?_) (setAll_defers _ sl a)
  rw [setAll_get]
  split
  · rename_i h
    rw [Array.getD_eq_getD_getElem?, Array.getElem?_eq_getElem h.2]; rfl
  · rfl

/-- all that has come up when some have, as bits -/
def depMask (md : Region.Mode) (o : Oper) : Nat := (depsOf md o).foldr (fun k s => s ||| 2 ^ k) 0
def growM (md : Region.Mode) (ops : Array Oper) (m : Nat) : Nat := (List.range ops.size).foldr (fun i m => if m.testBit i = true then m ||| ((ops[i]?).map (depMask md)).getD 0 else m) m
theorem depMask_bit {l : List Nat} {k : Nat} (h : (l.foldr (fun k s => s ||| 2 ^ k) 0).testBit k = true) : k ∈ l := by
  induction l with
  | nil => simp at h
  | cons x l ih =>
    rw [List.foldr_cons, Nat.testBit_or, Bool.or_eq_true] at h
    rcases h with h | h
    · exact List.mem_cons_of_mem _ (ih h)
    · rw [Nat.testBit_two_pow] at h
      have : x = k := by simpa using h
      rw [this]; exact List.mem_cons_self
theorem growM_sound {D : Nat → Bool} (hc : closedD md ops D) {m : Nat} (hm : ∀ k, m.testBit k = true → D k = true) : ∀ k, (growM md ops m).testBit k = true → D k = true := by
  unfold growM
  generalize List.range ops.size = l
  induction l with
  | nil => exact hm
  | cons i l ih =>
    intro k hk
    rw [List.foldr_cons] at hk
    split at hk
    · rename_i hi
      rw [Nat.testBit_or, Bool.or_eq_true] at hk
      rcases hk with hk | hk
      · exact ih k hk
      · cases ho : ops[i]? with
        | none => rw [ho] at hk; simp at hk
        | some o =>
          rw [ho, Option.map_some, Option.getD_some] at hk
          exact hc i o ho (ih i hi) k (depMask_bit hk)
    · exact ih k hk
/-- one operation keeps what is held of the letters -/
def InvStepF (P : Program) (md : Region.Mode) (ops : Array Oper) (Q : Exit → Act → World → Prop) (a0 : Act) (sl : List Nat) (J : (Nat → Bool) → (Nat → Value) → World → Prop) (i : Nat) (o : Oper) : Prop :=
  ∀ D s w, D i = false → (∀ k, (growM md ops (depMask md o)).testBit k = true → D k = true) → (∀ j, (growM md ops (2 ^ j)).testBit i = true → D j = false) → J D s w → ∀ K : Act → World → Prop, Shut (∀ a' v w', a' = (setAll a0 sl s).put o.dst v → J (updD D i) (updS s o.dst v) w' → K a' w') →
    if Region.wanted o (yielded ops (setAll a0 sl s).tmps) = true then o.wp P (setAll a0 sl s) w K Q else K ((setAll a0 sl s).put o.dst undef) w
def InvAllF (P : Program) (md : Region.Mode) (ops : Array Oper) (Q : Exit → Act → World → Prop) (a0 : Act) (sl done : List Nat) (J : (Nat → Bool) → (Nat → Value) → World → Prop) : Nat → List Oper → Prop
  | _, [] => True
  | i, o :: l => (i ∈ done ∨ (o.dst.all (fun j => sl.contains j) = true ∧ InvStepF P md ops Q a0 sl J i o)) ∧ InvAllF P md ops Q a0 sl done J (i + 1) l
section
variable {a0 : Act} {sl done : List Nat} {J : (Nat → Bool) → (Nat → Value) → World → Prop} {i : Nat} {o : Oper} {l : List Oper}
theorem InvAllF.cons (hd : o.dst.all (fun j => sl.contains j) = true) (h : InvStepF P md ops Q a0 sl J i o) (hl : InvAllF P md ops Q a0 sl done J (i + 1) l) : InvAllF P md ops Q a0 sl done J i (o :: l) := ⟨.inr ⟨hd, h⟩, hl⟩
theorem InvAllF.skip (hd : done.contains i = true) (hl : InvAllF P md ops Q a0 sl done J (i + 1) l) : InvAllF P md ops Q a0 sl done J i (o :: l) := ⟨.inl (by simpa using hd), hl⟩
theorem InvAllF.nil : InvAllF P md ops Q a0 sl done J i [] := trivial
end
theorem InvAllF.all {a0 : Act} {sl done : List Nat} {J : (Nat → Bool) → (Nat → Value) → World → Prop} : ∀ {l : List Oper} {i : Nat}, InvAllF P md ops Q a0 sl done J i l →
    InvAll P md ops Q (fun D a w => (∀ k ∈ done, D k = true) ∧ ∃ s, a = setAll a0 sl s ∧ J D s w) i l
  | [], _, _ => trivial
  | o :: l, i, h => by
    refine ⟨?_, h.2.all⟩
    rintro D a w hD hdep hcl ⟨hdn, s, rfl, hJ⟩ K hK
    rcases h.1 with h1 | ⟨h1, h2⟩
    · rw [hdn i h1] at hD; cases hD
    · refine h2 D s w hD (growM_sound hcl fun k hk => hdep k (depMask_bit hk)) (fun j hj => ?_) hJ K fun a' v w' ha hJ' => hK a' w' ⟨fun k hk => ?_, updS s o.dst v, by rw [ha, setAll_put s sl a0 h1 v], hJ'⟩
      · cases hDj : D j with
        | false => rfl
        | true =>
          have := growM_sound hcl (m := 2 ^ j) (fun k hk => by
            rw [Nat.testBit_two_pow] at hk
            have e : j = k := by simpa using hk
            rw [← e]; exact hDj) i hj
          rw [hD] at this; cases this
      · unfold updD
        split
        · rfl
        · exact hdn k hk
/-- from a point on, whatever order -/
theorem wpAnyH_invF {S : World → Prop} (sl done : List Nat) (J : (Nat → Bool) → (Nat → Value) → World → Prop) {fuel : Nat} {listed : Array Bool} {a0 : Act} {w : World} (hback : edgesBack md ops = true)
    (hsz : listed.size = ops.size) (hcl : closedB md ops (fun i => listed.getD i false) = true) (hdone : done = (List.range ops.size).filter fun i => listed.getD i false) (hf : leftN ops.size (fun i => listed.getD i false) ≤ fuel)
    (hS : ∀ D s w, J D s w → S w) (h0 : ∀ s, J (fun i => listed.getD i false) s w) (hall : InvAllF P md ops Q a0 sl done J 0 ops.toList)
    (hend : ∀ D s w, (∀ i, i < ops.size → D i = true) → J D s w → Q .normal (setAll a0 sl s) w) : wpAnyH P md ops Q S fuel listed a0 w := by
  refine wpAnyH_inv hback (fun D a w h => ?_) hall.all (fun D a w hD h => ?_) fuel listed (fun i => listed.getD i false) a0 w hsz (fun i hi => ?_) (closedB_spec hcl) hf ⟨fun k hk => ?_, fun j => a0.tmps.getD j undef, (setAll_own sl a0).symm, h0 _⟩
  · obtain ⟨-, s, -, h⟩ := h
    exact hS _ _ _ h
  · obtain ⟨-, s, rfl, h⟩ := h
    exact hend _ _ _ hD h
  · rw [Array.getD_eq_getD_getElem?, Array.getElem?_eq_getElem (by omega)]; rfl
  · rw [hdone] at hk
    exact (List.mem_filter.1 hk).2
end
end Go.Proofs.YthnbeebilomchaaGreatDoor

namespace Go.Proofs.YthnbeebilomchaaGreatDoor
open Go Go.RowKit

/-- a key and a value -/
abbrev Pt := Nm × VD
def ptC (p : Pt) : List Value := strV p.1 :: p.2.cells
theorem ptC_len (p : Pt) : (ptC p).length = 7 := by unfold ptC; rw [List.length_cons, VD.len]
theorem val_list (d : VD) : d.cells = [.int .i64 d.sort, .bool d.on, .int .i64 d.n, .string ⟨d.text.toArray⟩, .slice d.a d.list.length d.c, .slice d.ka d.keys.length d.kc] := by cases d; rfl
theorem val_arr (d : VD) : d.cells.toArray = #[.int .i64 d.sort, .bool d.on, .int .i64 d.n, .string ⟨d.text.toArray⟩, .slice d.a d.list.length d.c, .slice d.ka d.keys.length d.kc] := by cases d; rfl
/-- parts in a row -/
structure PtsAt (w : World) (P : Nat → Prop) (a : Option Addr) (l : List Pt) : Prop where
  row : Row w 7 a l.length (l.flatMap ptC)
  vals : ∀ p ∈ l, ValAt w P p.2
/-- a value that is handed back, whose rows are P -/
def DocP (w : World) (P : Nat → Prop) (v : V) (e : Ending) (w' : World) : Prop := ∃ d : VD, e = .returned (.agg #[.int .i64 d.sort, .bool d.on, .int .i64 d.n, .string ⟨d.text.toArray⟩, .slice d.a d.list.length d.c, .slice d.ka d.keys.length d.kc]) ∧ d.v = v ∧ ValAt w' P d ∧ Below w.heap.size w w'
theorem DocP.doc {w w' : World} {P : Nat → Prop} {v : V} {e : Ending} (h : DocP w P v e w') : DocE w v e w' := by
  obtain ⟨d, h1, h2, h3, h4⟩ := h
  exact ⟨d, h1, h2, h3.mono fun _ _ _ => trivial, h4⟩
theorem PtsAt.ext {w w' : World} {P : Nat → Prop} {a : Option Addr} {l : List Pt} (h : PtsAt w P a l) (hb : Below w.heap.size w w') : PtsAt w' P a l := ⟨h.row.ext hb, fun p hp => (h.vals p hp).ext hb⟩
def recP (l : List Pt) : V := recW (l.map fun p => (p.1, p.2.v))
theorem pt_at {w : World} {P : Nat → Prop} {a : Option Addr} {l : List Pt} (h : PtsAt w P a l) {i : Nat} {x : Pt} (hx : l[i]? = some x) :
    ∃ b off, a = some ⟨b, off, none⟩ ∧ w.cell? ⟨b, off + i * 7, none⟩ = some (.string ⟨x.1.toArray⟩) ∧ w.cell? ⟨b, off + i * 7 + 1, none⟩ = some (.int .i64 x.2.sort) ∧ w.cell? ⟨b, off + i * 7 + 2, none⟩ = some (.bool x.2.on) ∧ w.cell? ⟨b, off + i * 7 + 3, none⟩ = some (.int .i64 x.2.n) ∧
      w.cell? ⟨b, off + i * 7 + 4, none⟩ = some (.string ⟨x.2.text.toArray⟩) ∧ w.cell? ⟨b, off + i * 7 + 5, none⟩ = some (.slice x.2.a x.2.list.length x.2.c) ∧ w.cell? ⟨b, off + i * 7 + 6, none⟩ = some (.slice x.2.ka x.2.keys.length x.2.kc) := by
  obtain ⟨b, off, ha, hc⟩ := Row.elem ptC_len (by decide) h.row hx
  obtain ⟨k, s, o, n, t, va, vc, l2, ka, kc, ks⟩ := x
  exact ⟨b, off, ha, hc 0 (by decide), hc 1 (by decide), hc 2 (by decide), hc 3 (by decide), hc 4 (by decide), hc 5 (by decide), hc 6 (by decide)⟩

def zeroC : Array Value := #[.int .i64 0, .bool false, .int .i64 0, .string { data := #[] }, .slice none 0 0, .slice none 0 0]
def recC (l k : Value) : Array Value := #[.int .i64 5, .bool false, .int .i64 0, .string { data := #[] }, l, k]
/-- between rounds -/
structure RecL (w : World) (gv gr : Nat) (l : List Pt) (la : Option Addr) (lc : Nat) (ka : Option Addr) (kc : Nat) (W : World) : Prop where
  below : Below w.heap.size w W
  blk : Blk W gv (recC (.slice la l.length lc) (.slice ka l.length kc)) 36
  res : Blk W gr zeroC 36
  lown : Own W w.heap.size 36 6 la l.length lc (l.flatMap fun p => p.2.cells)
  kown : Own W w.heap.size 9 1 ka l.length kc (l.map fun p => strV p.1)
  l1 : rowOf la lc ≠ some gv
  l2 : rowOf la lc ≠ some gr
  k1 : rowOf ka kc ≠ some gv
  k2 : rowOf ka kc ≠ some gr
/-- within the region -/
structure RecI (w : World) (gv gr gp : Nat) (l : List Pt) (x : Pt) (la : Option Addr) (lc : Nat) (ka : Option Addr) (kc : Nat) (D : Nat → Bool) (s : Nat → Value) (W : World) : Prop where
  below : Below w.heap.size w W
  n1 : gv ≠ gp
  n2 : gr ≠ gv
  g1 : w.heap.size ≤ gv
  blk : Blk W gv (recC (bif D 15 then s 24 else .slice la l.length lc) (bif D 13 then s 18 else .slice ka l.length kc)) 36
  res : Blk W gr zeroC 36
  prt : Blk W gp (ptC x).toArray 74
  s14 : D 1 = true → s 14 = .slice ka l.length kc
  s20 : D 7 = true → s 20 = .slice la l.length lc
  s17 : D 4 = true → D 5 = false → ∃ g, s 17 = .slice (some ⟨g, 0, none⟩) 1 1 ∧ Blk W g #[strV x.1] 9
  s23 : D 10 = true → D 11 = false → ∃ g, s 23 = .slice (some ⟨g, 0, none⟩) 1 1 ∧ Blk W g x.2.cells.toArray 36
  s25 : D 12 = true → s 25 = .pointer (some ⟨gv, 5, none⟩)
  s26 : D 14 = true → s 26 = .pointer (some ⟨gv, 4, none⟩)
  k0 : D 5 = false → Own W w.heap.size 9 1 ka l.length kc (l.map fun p => strV p.1) ∧ rowOf ka kc ≠ some gv ∧ rowOf ka kc ≠ some gr
  k1 : D 5 = true → ∃ a c, s 18 = .slice a (l.length + 1) c ∧ Own W w.heap.size 9 1 a (l.length + 1) c ((l.map fun p => strV p.1) ++ [strV x.1]) ∧ rowOf a c ≠ some gv ∧ rowOf a c ≠ some gr
  v0 : D 11 = false → Own W w.heap.size 36 6 la l.length lc (l.flatMap fun p => p.2.cells) ∧ rowOf la lc ≠ some gv ∧ rowOf la lc ≠ some gr
  v1 : D 11 = true → ∃ a c, s 24 = .slice a (l.length + 1) c ∧ Own W w.heap.size 36 6 a (l.length + 1) c ((l.flatMap fun p => p.2.cells) ++ x.2.cells) ∧ rowOf a c ≠ some gv ∧ rowOf a c ≠ some gr
theorem blk_types {w : World} {g : Nat} {c c' : Array Value} {T T' : TypeId} (h : Blk w g c T) (h' : Blk w g c' T') : T = T' := by
  have := h.symm.trans h'
  simp at this
  exact this.2
/-- a block of another type is no row of it -/
theorem Own.notBlk {W : World} {base sz n c : Nat} {T : TypeId} {a : Option Addr} {xs : List Value} (h : Own W base T sz a n c xs) {g : Nat} {cs : Array Value} {T' : TypeId} (hB : Blk W g cs T') (hne : T' ≠ T) : some g ≠ rowOf a c := by
  intro he
  unfold rowOf at he
  split at he
  · cases he
  · rename_i hc
    rcases h.2 with ⟨_, q, _⟩ | ⟨g', off', cur', rfl, _, q3, _⟩
    · exact hc q
    · simp [blockOf] at he; subst he
      exact hne (blk_types hB q3)
section
variable {w : World} {gv gr gp : Nat} {l : List Pt} {x : Pt} {la : Option Addr} {lc : Nat} {ka : Option Addr} {kc : Nat} {D : Nat → Bool} {s : Nat → Value} {W : World}
theorem RecI.start {W : World} (h : RecL w gv gr l la lc ka kc W) (n1 : gv ≠ gp) (n2 : gr ≠ gv) (g1 : w.heap.size ≤ gv) (hp : Blk W gp (ptC x).toArray 74) (d1 : D 1 = false) (d4 : D 4 = false) (d5 : D 5 = false) (d7 : D 7 = false) (d10 : D 10 = false) (d11 : D 11 = false) (d12 : D 12 = false) (d13 : D 13 = false) (d14 : D 14 = false) (d15 : D 15 = false) (s : Nat → Value) :
    RecI w gv gr gp l x la lc ka kc D s W where
  below := h.below
  n1 := n1
  n2 := n2
  g1 := g1
  blk := by rw [d15, d13]; exact h.blk
  res := h.res
  prt := hp
  s14 := fun e => by rw [d1] at e; cases e
  s20 := fun e => by rw [d7] at e; cases e
  s17 := fun e => by rw [d4] at e; cases e
  s23 := fun e => by rw [d10] at e; cases e
  s25 := fun e => by rw [d12] at e; cases e
  s26 := fun e => by rw [d14] at e; cases e
  k0 := fun _ => ⟨h.kown, h.k1, h.k2⟩
  k1 := fun e => by rw [d5] at e; cases e
  v0 := fun _ => ⟨h.lown, h.l1, h.l2⟩
  v1 := fun e => by rw [d11] at e; cases e
theorem RecI.op1 (h : RecI w gv gr gp l x la lc ka kc D s W) : RecI w gv gr gp l x la lc ka kc (updD D 1) (updS s (some 14) (.slice ka l.length kc)) W :=
  ⟨h.below, h.n1, h.n2, h.g1, h.blk, h.res, h.prt, fun _ => rfl, h.s20, h.s17, h.s23, h.s25, h.s26, h.k0, h.k1, h.v0, h.v1⟩
theorem RecI.op7 (h : RecI w gv gr gp l x la lc ka kc D s W) : RecI w gv gr gp l x la lc ka kc (updD D 7) (updS s (some 20) (.slice la l.length lc)) W :=
  ⟨h.below, h.n1, h.n2, h.g1, h.blk, h.res, h.prt, h.s14, fun _ => rfl, h.s17, h.s23, h.s25, h.s26, h.k0, h.k1, h.v0, h.v1⟩
theorem RecI.op12 (h : RecI w gv gr gp l x la lc ka kc D s W) : RecI w gv gr gp l x la lc ka kc (updD D 12) (updS s (some 25) (.pointer (some ⟨gv, 5, none⟩))) W :=
  ⟨h.below, h.n1, h.n2, h.g1, h.blk, h.res, h.prt, h.s14, h.s20, h.s17, h.s23, fun _ => rfl, h.s26, h.k0, h.k1, h.v0, h.v1⟩
theorem RecI.op14 (h : RecI w gv gr gp l x la lc ka kc D s W) : RecI w gv gr gp l x la lc ka kc (updD D 14) (updS s (some 26) (.pointer (some ⟨gv, 4, none⟩))) W :=
  ⟨h.below, h.n1, h.n2, h.g1, h.blk, h.res, h.prt, h.s14, h.s20, h.s17, h.s23, h.s25, fun _ => rfl, h.k0, h.k1, h.v0, h.v1⟩
theorem RecI.alloc (h : RecI w gv gr gp l x la lc ka kc D s W) (o : Obj) : RecI w gv gr gp l x la lc ka kc D s (W.alloc o) where
  below := h.below.alloc h.below.size _
  n1 := h.n1
  n2 := h.n2
  g1 := h.g1
  blk := h.blk.alloc _
  res := h.res.alloc _
  prt := h.prt.alloc _
  s14 := h.s14
  s20 := h.s20
  s17 := fun e e' => by obtain ⟨g, h1, h2⟩ := h.s17 e e'; exact ⟨g, h1, h2.alloc _⟩
  s23 := fun e e' => by obtain ⟨g, h1, h2⟩ := h.s23 e e'; exact ⟨g, h1, h2.alloc _⟩
  s25 := h.s25
  s26 := h.s26
  k0 := fun e => ⟨(h.k0 e).1.alloc _, (h.k0 e).2⟩
  k1 := fun e => by obtain ⟨a, c, h1, h2, h3⟩ := h.k1 e; exact ⟨a, c, h1, h2.alloc _, h3⟩
  v0 := fun e => ⟨(h.v0 e).1.alloc _, (h.v0 e).2⟩
  v1 := fun e => by obtain ⟨a, c, h1, h2, h3⟩ := h.v1 e; exact ⟨a, c, h1, h2.alloc _, h3⟩
theorem RecI.op4 (h : RecI w gv gr gp l x la lc ka kc D s W) : RecI w gv gr gp l x la lc ka kc (updD D 4) (updS s (some 17) (.slice (some ⟨W.heap.size, 0, none⟩) 1 1)) (W.alloc (.cells #[strV x.1] 9)) := by
  have k := h.alloc (.cells #[strV x.1] 9)
  exact ⟨k.below, k.n1, k.n2, k.g1, k.blk, k.res, k.prt, k.s14, k.s20, fun _ _ => ⟨_, rfl, Blk.new rfl⟩, k.s23, k.s25, k.s26, k.k0, k.k1, k.v0, k.v1⟩
theorem RecI.op10 (h : RecI w gv gr gp l x la lc ka kc D s W) : RecI w gv gr gp l x la lc ka kc (updD D 10) (updS s (some 23) (.slice (some ⟨W.heap.size, 0, none⟩) 1 1)) (W.alloc (.cells x.2.cells.toArray 36)) := by
  have k := h.alloc (.cells x.2.cells.toArray 36)
  exact ⟨k.below, k.n1, k.n2, k.g1, k.blk, k.res, k.prt, k.s14, k.s20, k.s17, fun _ _ => ⟨_, rfl, Blk.new rfl⟩, k.s25, k.s26, k.k0, k.k1, k.v0, k.v1⟩
theorem RecI.op10' (h : RecI w gv gr gp l x la lc ka kc D s W) : RecI w gv gr gp l x la lc ka kc (updD D 10) (updS s (some 23) (.slice (some ⟨W.heap.size, 0, none⟩) 1 1)) (W.alloc (.cells #[.int .i64 x.2.sort, .bool x.2.on, .int .i64 x.2.n, .string ⟨x.2.text.toArray⟩, .slice x.2.a x.2.list.length x.2.c, .slice x.2.ka x.2.keys.length x.2.kc] 36)) := by
  have k := h.op10
  rw [val_arr] at k
  exact k
/-- the keys have grown -/
theorem RecI.op5 (h : RecI w gv gr gp l x la lc ka kc D s W) (d5 : D 5 = false) (d13 : D 13 = false) {a : Option Addr} {c : Nat} {W' : World} (ho : Own W' w.heap.size 9 1 a (l.length + 1) c ((l.map fun p => strV p.1) ++ [strV x.1])) (hg : W.grownBy W' (rowOf ka kc))
    (hb : rowOf a c = rowOf ka kc ∨ rowOf a c = some W.heap.size) : RecI w gv gr gp l x la lc ka kc (updD D 5) (updS s (some 18) (.slice a (l.length + 1) c)) W' := by
  obtain ⟨q0, q1, q2⟩ := h.k0 d5
  have ne : 36 ≠ 9 := by decide
  refine ⟨h.below.grown hg h.below.size (q0.rowBase (Nat.le_refl _)), h.n1, h.n2, h.g1, ?_, h.res.grown hg (fun e => q2 e.symm), h.prt.grown hg (q0.notBlk h.prt (by decide)), h.s14, h.s20, fun _ e => (by rw [updD_self] at e; cases e), fun e e' => ?_, h.s25, h.s26, fun e => (by rw [updD_self] at e; cases e), fun _ => ⟨a, c, rfl, ho, rowOf_apart q1 h.blk.lt hb, rowOf_apart q2 h.res.lt hb⟩, fun e => ?_, fun e => ?_⟩
  · have := h.blk.grown hg (fun e => q1 e.symm)
    rw [d13] at this
    rw [show updD D 5 13 = false from d13]
    exact this
  · obtain ⟨g, h1, h2⟩ := h.s23 e e'
    exact ⟨g, h1, h2.grown hg (q0.notBlk h2 ne)⟩
  · exact ⟨(h.v0 e).1.keptType q0 ne hg, (h.v0 e).2⟩
  · obtain ⟨a', c', h1, h2, h3⟩ := h.v1 e
    exact ⟨a', c', h1, h2.keptType q0 ne hg, h3⟩
/-- the values have grown -/
theorem RecI.op11 (h : RecI w gv gr gp l x la lc ka kc D s W) (d11 : D 11 = false) (d15 : D 15 = false) {a : Option Addr} {c : Nat} {W' : World} (ho : Own W' w.heap.size 36 6 a (l.length + 1) c ((l.flatMap fun p => p.2.cells) ++ x.2.cells)) (hg : W.grownBy W' (rowOf la lc))
    (hb : rowOf a c = rowOf la lc ∨ rowOf a c = some W.heap.size) : RecI w gv gr gp l x la lc ka kc (updD D 11) (updS s (some 24) (.slice a (l.length + 1) c)) W' := by
  obtain ⟨q0, q1, q2⟩ := h.v0 d11
  have ne : 9 ≠ 36 := by decide
  refine ⟨h.below.grown hg h.below.size (q0.rowBase (Nat.le_refl _)), h.n1, h.n2, h.g1, ?_, h.res.grown hg (fun e => q2 e.symm), h.prt.grown hg (q0.notBlk h.prt (by decide)), h.s14, h.s20, fun e e' => ?_, fun _ e => (by rw [updD_self] at e; cases e), h.s25, h.s26, fun e => ?_, fun e => ?_, fun e => (by rw [updD_self] at e; cases e), fun _ => ⟨a, c, rfl, ho, rowOf_apart q1 h.blk.lt hb, rowOf_apart q2 h.res.lt hb⟩⟩
  · have := h.blk.grown hg (fun e => q1 e.symm)
    rw [d15] at this
    rw [show updD D 11 15 = false from d15]
    exact this
  · obtain ⟨g, h1, h2⟩ := h.s17 e e'
    exact ⟨g, h1, h2.grown hg (q0.notBlk h2 ne)⟩
  · exact ⟨(h.k0 e).1.keptType q0 ne hg, (h.k0 e).2⟩
  · obtain ⟨a', c', h1, h2, h3⟩ := h.k1 e
    exact ⟨a', c', h1, h2.keptType q0 ne hg, h3⟩
/-- a store into the box -/
theorem RecI.put (h : RecI w gv gr gp l x la lc ka kc D s W) (d5 : D 5 = true) (d11 : D 11 = true) {D' : Nat → Bool} (e5 : D' 5 = true) (e11 : D' 11 = true) (e1 : D' 1 = D 1) (e7 : D' 7 = D 7) (e12 : D' 12 = D 12) (e14 : D' 14 = D 14) (o : Nat) (u : Value)
    (hb : Blk (W.setCell ⟨gv, o, none⟩ u) gv (recC (bif D' 15 then s 24 else .slice la l.length lc) (bif D' 13 then s 18 else .slice ka l.length kc)) 36) : RecI w gv gr gp l x la lc ka kc D' s (W.setCell ⟨gv, o, none⟩ u) where
  below := h.below.setCell h.g1 _
  n1 := h.n1
  n2 := h.n2
  g1 := h.g1
  blk := hb
  res := h.res.other h.n2 _
  prt := h.prt.other (Ne.symm h.n1) _
  s14 := fun e => h.s14 (e1 ▸ e)
  s20 := fun e => h.s20 (e7 ▸ e)
  s17 := fun _ e => by rw [e5] at e; cases e
  s23 := fun _ e => by rw [e11] at e; cases e
  s25 := fun e => h.s25 (e12 ▸ e)
  s26 := fun e => h.s26 (e14 ▸ e)
  k0 := fun e => by rw [e5] at e; cases e
  k1 := fun _ => by obtain ⟨a, c, h1, h2, h3⟩ := h.k1 d5; exact ⟨a, c, h1, h2.setCell_row (p := ⟨gv, o, none⟩) h3.1 u, h3⟩
  v0 := fun e => by rw [e11] at e; cases e
  v1 := fun _ => by obtain ⟨a, c, h1, h2, h3⟩ := h.v1 d11; exact ⟨a, c, h1, h2.setCell_row (p := ⟨gv, o, none⟩) h3.1 u, h3⟩
theorem RecI.op13 (h : RecI w gv gr gp l x la lc ka kc D s W) (d5 : D 5 = true) (d11 : D 11 = true) (d15 : D 15 = false) (v : Value) : RecI w gv gr gp l x la lc ka kc (updD D 13) (updS s none v) (W.setCell ⟨gv, 5, none⟩ (s 18)) := by
  refine h.put d5 d11 (D' := updD D 13) d5 d11 rfl rfl rfl rfl 5 _ ?_
  have := h.blk.set 5 (s 18)
  rw [d15] at this
  rw [show updD D 13 15 = false from d15]
  exact this
theorem RecI.op15 (h : RecI w gv gr gp l x la lc ka kc D s W) (d5 : D 5 = true) (d11 : D 11 = true) (d13 : D 13 = true) (v : Value) : RecI w gv gr gp l x la lc ka kc (updD D 15) (updS s none v) (W.setCell ⟨gv, 4, none⟩ (s 24)) := by
  refine h.put d5 d11 (D' := updD D 15) d5 d11 rfl rfl rfl rfl 4 _ ?_
  have := h.blk.set 4 (s 24)
  rw [d13] at this
  rw [show updD D 15 13 = true from d13]
  exact this
theorem RecI.ends (h : RecI w gv gr gp l x la lc ka kc D s W) (d5 : D 5 = true) (d11 : D 11 = true) (d13 : D 13 = true) (d15 : D 15 = true) : ∃ la lc ka kc, RecL w gv gr (l ++ [x]) la lc ka kc W := by
  obtain ⟨a, c, h1, h2, h3, h4⟩ := h.k1 d5
  obtain ⟨a', c', h1', h2', h3', h4'⟩ := h.v1 d11
  refine ⟨a', c', a, c, h.below, ?_, h.res, ?_, ?_, h3', h4', h3, h4⟩
  · have := h.blk
    rw [d15, d13, h1, h1'] at this
    rw [List.length_append]
    exact this
  · rw [List.length_append, List.flatMap_append, List.flatMap_singleton]; exact h2'
  · rw [List.length_append, List.map_append]; exact h2
end
end Go.Proofs.YthnbeebilomchaaGreatDoor
