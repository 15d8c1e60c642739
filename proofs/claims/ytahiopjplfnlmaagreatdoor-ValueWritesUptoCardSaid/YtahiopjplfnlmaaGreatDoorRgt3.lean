/- What is right: walked. -/
import Derived.Test.YtahiopjplfnlmaaGreatDoorRgt2
namespace Go.Proofs.YtahiopjplfnlmaaGreatDoor
open Go Go.RowKit

/-- right's two boxes -/
structure RB (w W : World) (d : VD) (m : Int) : Prop where
  val : Blk W w.heap.size #[.int .i64 d.sort, .bool d.on, .int .i64 d.n, .string ⟨d.text.toArray⟩, .slice d.a d.list.length d.c, .slice d.ka d.keys.length d.kc] 34
  most : Blk W (w.heap.size + 1) #[.int .i64 m] 3
  below : Below w.heap.size w W
theorem RB.ext {w W W' : World} {d : VD} {m : Int} (h : RB w W d m) (hb : Below W.heap.size W W') : RB w W' d m := ⟨h.val.ext hb, h.most.ext hb, h.below.trans (hb.mono h.below.size)⟩
theorem RB.made (w : World) (d : VD) (m : Int) : RB w ((w.alloc (.cells #[.int .i64 d.sort, .bool d.on, .int .i64 d.n, .string ⟨d.text.toArray⟩, .slice d.a d.list.length d.c, .slice d.ka d.keys.length d.kc] 34)).alloc (.cells #[.int .i64 m] 3)) d m :=
  ⟨(Blk.new rfl).alloc _, Blk.new (by simp), (below_a1 w _).alloc (by simp) _⟩
theorem headOk_eq (s : Int) (o : Bool) (n : Int) (t : Nm) (m : Nat) (ks : List Nm) : headOk s o n t m ks = (decide (0 ≤ s) && decide (s ≤ 5) && decide (-9007199254740992 ≤ n) && decide (n ≤ 9007199254740992) && Lib.validD t && emptyOk s o n t m ks.length && distinct ks) := by
  unfold headOk emptyOk
  have e : ks.isEmpty = (ks.length == 0) := by cases ks <;> rfl
  rw [e]
  rw [Bool.eq_iff_iff]
  simp only [Bool.and_eq_true]
  constructor
  · rintro ⟨⟨⟨⟨⟨⟨⟨⟨⟨a, b⟩, c⟩, d⟩, e⟩, f⟩, g⟩, h⟩, i⟩, j⟩; exact ⟨⟨⟨⟨⟨⟨d, e⟩, f⟩, g⟩, h⟩, ⟨⟨⟨a, b⟩, c⟩, j⟩⟩, i⟩
  · rintro ⟨⟨⟨⟨⟨⟨d, e⟩, f⟩, g⟩, h⟩, ⟨⟨⟨a, b⟩, c⟩, j⟩⟩, i⟩; exact ⟨⟨⟨⟨⟨⟨⟨⟨⟨a, b⟩, c⟩, d⟩, e⟩, f⟩, g⟩, h⟩, i⟩, j⟩
theorem size_parts {s : Int} {o : Bool} {n : Int} {t : Nm} {l : List V} {ks : List Nm} {N : Nat} (h : sizeV (.mk s o n t l ks) ≤ N) : t.length ≤ N ∧ ks.length ≤ N ∧ l.length ≤ N ∧ (∀ x ∈ ks, x.length ≤ N) ∧ ∀ x ∈ l, sizeV x ≤ N := by
  rw [sizeV] at h
  have h1 := sizesV_len l
  have h2 : ks.length ≤ (ks.map fun k => 1 + k.length).sum := by
    clear h
    induction ks with
    | nil => simp
    | cons k ks ih => simp only [List.map_cons, List.sum_cons, List.length_cons]; omega
  have h3 : ∀ x ∈ ks, x.length ≤ (ks.map fun k => 1 + k.length).sum := by
    clear h h2
    induction ks with
    | nil => simp
    | cons k ks ih =>
      intro x hx
      simp only [List.map_cons, List.sum_cons]
      rcases List.mem_cons.1 hx with rfl | hx
      · omega
      · have := ih x hx; omega
  refine ⟨by omega, by omega, by omega, fun x hx => ?_, fun x hx => ?_⟩
  · have := h3 x hx; omega
  · have := sizesV_mem hx; omega
theorem right_step (m : Nat) (d : VD) : right m d.v = (headOk d.sort d.on d.n d.text d.list.length d.keys && (decide (d.sort < 4) || (decide (0 < m) && !(d.list.any fun x => !(right (m - 1) x.v))))) := by
  rw [VD.v_eq, right, rights_all, List.length_map, List.all_map]
  rw [show (d.list.all ((right (m - 1)) ∘ VD.v)) = !(d.list.any fun x => !(right (m - 1) x.v)) by rw [List.not_any_eq_all_not]; simp [Function.comp_def]]
set_option maxHeartbeats 4000000 in
theorem right_walk (m : Nat) (hm : m ≤ 20) (d : VD) (w : World) (hG : Glob w) (hv : ValAt w (fun _ => True) d) (hs : sizeV d.v ≤ 1048576)
    (IH : 0 < m → Hid (RightAt (m - 1))) : Calls Tryz.prog 24 #[d.val, .int .i64 (m : Nat)] w (BoE w (right m d.v)) := by
  obtain ⟨W0, hW0⟩ : ∃ W0, W0 = (w.alloc (.cells #[.int .i64 d.sort, .bool d.on, .int .i64 d.n, .string ⟨d.text.toArray⟩, .slice d.a d.list.length d.c, .slice d.ka d.keys.length d.kc] 34)).alloc (.cells #[.int .i64 ((m : Nat) : Int)] 3) := ⟨_, rfl⟩
  have R0 : Hid (RB w W0 d m) := Lib.hid (by rw [hW0]; exact RB.made w d m)
  have hst := right_step m d
  rw [headOk_eq] at hst
  have hsz : sizeV (.mk d.sort d.on d.n d.text (d.list.map VD.v) d.keys) ≤ 1048576 := by rw [← VD.v_eq]; exact hs
  obtain ⟨s1, s2, s3, s4, s5⟩ := size_parts hsz
  rw [List.length_map] at s3
  have S4 := Lib.hid s4
  have S5 : Hid (∀ x ∈ d.list, sizeV x.v ≤ 1048576) := Lib.hid fun x hx => s5 _ (List.mem_map_of_mem hx)
  have HG := Lib.hid hG
  have HV := Lib.hid hv
  have HST := Lib.hid hst
  have HI := Lib.hid IH
  rw [VD.val6]
  clear hG hv hst hs hsz s4 s5 IH
  obtain ⟨n, hn⟩ : ∃ n : Int, n = (m : Int) := ⟨_, rfl⟩
  rw [← hn] at R0 hW0 ⊢
  have hn0 : 0 ≤ n := by omega
  have hn2 : n ≤ 20 := by omega
  have HN := Lib.hid hn
  clear hn
  obtain ⟨c0, c1, c2, c3, c4, c5⟩ := (R0.out.val).six
  have m0 := R0.out.most.cell 0
  simp only [List.getElem?_toArray, List.getElem?_cons_zero] at m0
  go_enter Tryz.func24, Tryz.ntmps24
  go_upto_region 1 with (fail)
  rw [← hW0]
  clear hW0
  generalize hq : right m d.v = q at *
  by_cases a1 : d.sort < 0
  · have hf : q = false := by rw [HST.out]; simp only [Bool.and_eq_false_iff, decide_eq_false_iff_not]; left; left; left; left; left; left; left; omega
    have Hf := Lib.hid hf
    clear hf
    go_wp2
    go_ret
    exact ⟨by rw [Hf.out]; rfl, R0.out.below⟩
  by_cases a2 : 5 < d.sort
  · have hf : q = false := by rw [HST.out]; simp only [Bool.and_eq_false_iff, decide_eq_false_iff_not]; left; left; left; left; left; left; right; omega
    have Hf := Lib.hid hf
    clear hf
    go_wp2
    go_ret
    exact ⟨by rw [Hf.out]; rfl, R0.out.below⟩
  by_cases a3 : d.n < -9007199254740992
  · have hf : q = false := by rw [HST.out]; simp only [Bool.and_eq_false_iff, decide_eq_false_iff_not]; left; left; left; left; left; right; omega
    have Hf := Lib.hid hf
    clear hf
    go_wp2
    go_ret
    exact ⟨by rw [Hf.out]; rfl, R0.out.below⟩
  by_cases a4 : 9007199254740992 < d.n
  · have hf : q = false := by rw [HST.out]; simp only [Bool.and_eq_false_iff, decide_eq_false_iff_not]; left; left; left; left; right; omega
    have Hf := Lib.hid hf
    clear hf
    go_wp2
    go_ret
    exact ⟨by rw [Hf.out]; rfl, R0.out.below⟩
  have hh : q = (Lib.validD d.text && emptyOk d.sort d.on d.n d.text d.list.length d.keys.length && distinct d.keys && (decide (d.sort < 4) || (decide (0 < m) && !(d.list.any fun x => !(right (m - 1) x.v))))) := by
    rw [HST.out, decide_eq_true (by omega : 0 ≤ d.sort), decide_eq_true (by omega : d.sort ≤ 5), decide_eq_true (by omega : -9007199254740992 ≤ d.n), decide_eq_true (by omega : d.n ≤ 9007199254740992)]
    rfl
  have HH0 := Lib.hid hh
  clear hh HST
  go_wp2_with fail
  refine (utf_any d.text W0 (HG.out.ext R0.out.below) (by omega)).mono ?_
  rintro e W1 ⟨rfl, hb⟩
  have R1 := Lib.hid (R0.out.ext hb)
  clear c0 c1 c2 c3 c4 c5 m0 hb
  obtain ⟨c0, c1, c2, c3, c4, c5⟩ := (R1.out.val).six
  have m0 := R1.out.most.cell 0
  simp only [List.getElem?_toArray, List.getElem?_cons_zero] at m0
  cases h0 : Lib.validD d.text with
  | false =>
    have hf : q = false := by rw [HH0.out, h0]; simp
    have Hf := Lib.hid hf
    clear hf
    go_wp2
    go_ret
    exact ⟨by rw [Hf.out]; rfl, R1.out.below⟩
  | true =>
  have hh : q = (emptyOk d.sort d.on d.n d.text d.list.length d.keys.length && distinct d.keys && (decide (d.sort < 4) || (decide (0 < m) && !(d.list.any fun x => !(right (m - 1) x.v))))) := by rw [HH0.out, h0]; simp
  have HH1 := Lib.hid hh
  clear hh h0
  go_wp2_with fail
  have hemp := empty_any d W1
  rw [VD.val6] at hemp
  refine (hemp).mono ?_
  rintro e W2 ⟨rfl, hb⟩
  have R2 := Lib.hid (R1.out.ext hb)
  clear c0 c1 c2 c3 c4 c5 m0 hb
  obtain ⟨c0, c1, c2, c3, c4, c5⟩ := (R2.out.val).six
  have m0 := R2.out.most.cell 0
  simp only [List.getElem?_toArray, List.getElem?_cons_zero] at m0
  clear hemp
  cases h1 : emptyOk d.sort d.on d.n d.text d.list.length d.keys.length with
  | false =>
    have hf : q = false := by rw [HH1.out, h1]; simp
    have Hf := Lib.hid hf
    clear hf
    go_wp2
    go_ret
    exact ⟨by rw [Hf.out]; rfl, R2.out.below⟩
  | true =>
  have hh : q = (distinct d.keys && (decide (d.sort < 4) || (decide (0 < m) && !(d.list.any fun x => !(right (m - 1) x.v))))) := by rw [HH1.out, h1]; simp
  have HH2 := Lib.hid hh
  clear hh h1
  go_wp2_with fail
  refine (distinct_any d.ka d.kc d.keys W2 (HG.out.ext R2.out.below) (HV.out.ext R2.out.below).krow s2 S4.out).mono ?_
  rintro e W3 ⟨v, rfl, hb, b, rfl, hbd⟩
  rw [← Bool.eq_iff_iff] at hbd
  subst hbd
  have R3 := Lib.hid (R2.out.ext hb)
  clear c0 c1 c2 c3 c4 c5 m0 hb
  obtain ⟨c0, c1, c2, c3, c4, c5⟩ := (R3.out.val).six
  have m0 := R3.out.most.cell 0
  simp only [List.getElem?_toArray, List.getElem?_cons_zero] at m0
  cases h2 : distinct d.keys with
  | false =>
    have hf : q = false := by rw [HH2.out, h2]; simp
    have Hf := Lib.hid hf
    clear hf
    go_wp2
    go_ret
    exact ⟨by rw [Hf.out]; rfl, R3.out.below⟩
  | true =>
  have hh : q = ((decide (d.sort < 4) || (decide (0 < m) && !(d.list.any fun x => !(right (m - 1) x.v))))) := by rw [HH2.out, h2]; simp
  have HH3 := Lib.hid hh
  clear hh h2
  by_cases h4 : d.sort < 4
  · have hf : q = true := by rw [HH3.out, decide_eq_true h4]; rfl
    have Hf := Lib.hid hf
    clear hf
    go_wp2
    go_ret
    exact ⟨by rw [Hf.out]; rfl, R3.out.below⟩
  have hh : q = (decide (0 < m) && !(d.list.any fun x => !(right (m - 1) x.v))) := by rw [HH3.out, decide_eq_false h4]; rfl
  have HH4 := Lib.hid hh
  clear hh
  by_cases hz : n = 0
  · have hf : q = false := by
      have : m = 0 := by have := HN.out; omega
      rw [HH4.out, this]; rfl
    have Hf := Lib.hid hf
    clear hf
    go_wp2
    go_ret
    exact ⟨by rw [Hf.out]; rfl, R3.out.below⟩
  have hpos : 0 < n := by omega
  have hmp : 0 < m := by have := HN.out; omega
  have hcon := containsfunc_any d.a d.c d.list W3 #[.pointer (some ⟨w.heap.size + 1, 0, none⟩)] (HV.out.ext R3.out.below).row s3 (fun x => !(right (m - 1) x.v)) (fun W x hb hx =>
    right1_any (m - 1) (HI.out hmp) x W (w.heap.size + 1) n (R3.out.ext hb).most (by have := HN.out; omega) (by omega) (HG.out.ext (R3.out.ext hb).below) ((HV.out.kid x hx).ext (R3.out.ext hb).below) (S5.out x hx))
  have hmf : ∀ (fn : Fn) (first cap : Array Value) (w : World), (Instr.makeFunc fn first cap).run Tryz.prog w = .ok (.func fn first cap) w := fun _ _ _ _ => rfl
  have HC := Lib.hid hcon
  clear hcon
  go_wp2_with fail
  refine HC.out.mono ?_
  rintro e W4 ⟨rfl, hb⟩
  have R4 := Lib.hid (R3.out.ext hb)
  clear c0 c1 c2 c3 c4 c5 m0 hb
  have hf : q = !(d.list.any fun x => !(right (m - 1) x.v)) := by rw [HH4.out, decide_eq_true hmp]; rfl
  have Hf := Lib.hid hf
  clear hf
  go_wp2
  go_ret
  exact ⟨by rw [Hf.out]; rfl, R4.out.below⟩
theorem right_all : ∀ m : Nat, m ≤ 20 → RightAt m
  | 0, _ => fun d w hG hv hs => right_walk 0 (by omega) d w hG hv hs (fun h => by omega)
  | m + 1, h => fun d w hG hv hs => right_walk (m + 1) h d w hG hv hs (fun _ => Lib.hid (right_all m (by omega)))
set_option maxHeartbeats 1000000 in
theorem vright_any (d : VD) (w : World) (hG : Glob w) (hv : ValAt w (fun _ => True) d) (hs : sizeV d.v ≤ 1048576) : Calls Tryz.prog 16 #[d.val] w (BoE w (right 20 d.v)) := by
  have hb := below_a1 w (.cells #[.int .i64 d.sort, .bool d.on, .int .i64 d.n, .string ⟨d.text.toArray⟩, .slice d.a d.list.length d.c, .slice d.ka d.keys.length d.kc] 34)
  have h1 := right_all 20 (by omega) d _ (hG.ext hb) (hv.ext hb) hs
  have HB := Lib.hid hb
  have H1 := Lib.hid h1
  rw [VD.val6] at H1 ⊢
  clear hb h1 hG hv
  go_enter Tryz.func16, Tryz.ntmps16
  go_wp2_with fail
  refine H1.out.mono ?_
  rintro e W ⟨rfl, hb2⟩
  have HB2 := Lib.hid hb2
  clear hb2
  go_wp2
  go_ret
  exact ⟨rfl, HB.out.trans (HB2.out.mono HB.out.size)⟩
end Go.Proofs.YtahiopjplfnlmaaGreatDoor
