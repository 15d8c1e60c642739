/- What is right, the document's formed, Right and Write; walked. -/
import Derived.Test.YtahiopjplfnlmaaGreatDoorRefB
namespace Go.Proofs.YtahiopjplfnlmaaGreatDoor
open Go Go.RowKit

/-- what regions 1 and 3 ask -/
def headF (s : Int) (o : Bool) (n : Int) (t : Nm) (m k : Nat) : Bool := emptyOk s o n t m k && decide (0 ≤ s) && decide (s ≤ 5) && decide (-9007199254740992 ≤ n) && decide (n ≤ 9007199254740992)
theorem headF_ok (s : Int) (o : Bool) (n : Int) (t : Nm) (m : Nat) (ks : List Nm) : headOk s o n t m ks = (headF s o n t m ks.length && Lib.validD t && distinct ks) := by
  unfold headOk headF emptyOk
  have h : (if s = 5 then ks.length == m else ks.isEmpty && (s == 4 || m == 0)) = (if s = 5 then ks.length == m else ks.length == 0 && (s == 4 || m == 0)) := by
    split
    · rfl
    · congr 1; cases ks <;> rfl
  rw [h]
  ac_rfl
theorem contains_snoc (l : List Nm) (z x : Nm) : (l ++ [z]).contains x = (l.contains x || (z == x)) := by
  rw [Bool.eq_iff_iff]
  simp only [Bool.or_eq_true, List.contains_iff_mem, List.mem_append, List.mem_singleton, beq_iff_eq]
  constructor <;> (rintro (h | h); exact .inl h; exact .inr h.symm)
theorem distinct_snocB : ∀ (l : List Nm) (x : Nm), distinct (l ++ [x]) = (distinct l && Lib.validD x && !l.contains x)
  | [], x => by simp [distinct]
  | y :: l, x => by
    rw [List.cons_append, distinct, distinct, distinct_snocB l x, contains_snoc]
    have e1 : (x == y) = (y == x) := by rw [Bool.eq_iff_iff]; simp only [beq_iff_eq]; exact eq_comm
    have e2 : (y :: l).contains x = ((x == y) || l.contains x) := by rw [List.contains_cons]
    rw [e2, e1]
    cases Lib.validD y <;> cases l.contains y <;> cases (y == x) <;> cases distinct l <;> cases Lib.validD x <;> cases l.contains x <;> rfl
theorem formeds_app : ∀ (l m : List V), formeds (l ++ m) = (formeds l && formeds m)
  | [], m => by simp [formeds]
  | v :: l, m => by rw [List.cons_append, formeds, formeds, formeds_app l m, Bool.and_assoc]
def FrmAt (d : VD) : Prop := ∀ W : World, ValAt W (fun _ => True) d → sizeV d.v ≤ 1048576 → Calls Tryz.prog 25 #[d.val] W (BoE W (formed d.v))

set_option maxHeartbeats 2000000 in
set_option maxRecDepth 20000 in
theorem frmF1 (s : Int) (n : Int) (t : Nm) (a : Option Addr) (c : Nat) (ks : List VD) (ka : Option Addr) (kc : Nat) (keys : List Nm) (W : World) (hh : headF s true n t ks.length keys.length = false) (_hs1 : (s == 1) = false) (hs1x : (s != 1) = true) :
    Calls Tryz.prog 25 #[(VD.mk s true n t a c ks ka kc keys).val] W (BoE W (formed (VD.mk s true n t a c ks ka kc keys).v)) := by
  have hfe : formed (VD.mk s true n t a c ks ka kc keys).v = (headF s true n t ks.length keys.length && Lib.validD t && distinct keys && formeds (ks.map VD.v)) := by
    rw [VD.v_eq, formed, headF_ok, List.length_map]; rfl
  obtain ⟨R, hR⟩ : ∃ R : Bool, R = formed (VD.mk s true n t a c ks ka kc keys).v := ⟨_, rfl⟩
  rw [← hR] at hfe ⊢
  clear hR
  have hb1 := below_a1 W (.cells #[.int .i64 s, .bool true, .int .i64 n, .string ⟨t.toArray⟩, .slice a ks.length c, .slice ka keys.length kc] 26)
  have HB := Lib.hid hb1
  have HF : Hid (R = false) := Lib.hid (by rw [hfe, hh]; rfl)
  simp only [VD.val, VD.cells, strV]
  clear hb1 hfe hh
  go_enter Tryz.func25, Tryz.ntmps25
  go_wp2
  go_ret
  exact ⟨by first | (rw [HF.out]; done) | (rw [HF.out]; rfl), HB.out⟩

set_option maxHeartbeats 2000000 in
set_option maxRecDepth 20000 in
theorem frmF2a (s : Int) (n : Int) (t : Nm) (a : Option Addr) (c : Nat) (ks : List VD) (ka : Option Addr) (kc : Nat) (keys : List Nm) (W : World) (hh : headF s false n t ks.length keys.length = false) (_hs2 : (s == 2) = false) (hs2x : (s != 2) = true)(_hn : (n == 0) = false) (hnx : (n != 0) = true) :
    Calls Tryz.prog 25 #[(VD.mk s false n t a c ks ka kc keys).val] W (BoE W (formed (VD.mk s false n t a c ks ka kc keys).v)) := by
  have hfe : formed (VD.mk s false n t a c ks ka kc keys).v = (headF s false n t ks.length keys.length && Lib.validD t && distinct keys && formeds (ks.map VD.v)) := by
    rw [VD.v_eq, formed, headF_ok, List.length_map]; rfl
  obtain ⟨R, hR⟩ : ∃ R : Bool, R = formed (VD.mk s false n t a c ks ka kc keys).v := ⟨_, rfl⟩
  rw [← hR] at hfe ⊢
  clear hR
  have hb1 := below_a1 W (.cells #[.int .i64 s, .bool false, .int .i64 n, .string ⟨t.toArray⟩, .slice a ks.length c, .slice ka keys.length kc] 26)
  have HB := Lib.hid hb1
  have HF : Hid (R = false) := Lib.hid (by rw [hfe, hh]; rfl)
  simp only [VD.val, VD.cells, strV]
  clear hb1 hfe hh
  go_enter Tryz.func25, Tryz.ntmps25
  go_wp2
  go_ret
  exact ⟨by first | (rw [HF.out]; done) | (rw [HF.out]; rfl), HB.out⟩

set_option maxHeartbeats 2000000 in
set_option maxRecDepth 20000 in
theorem frmF2b (n : Int) (t : Nm) (a : Option Addr) (c : Nat) (ks : List VD) (ka : Option Addr) (kc : Nat) (keys : List Nm) (W : World) (hh : headF 1 true n t ks.length keys.length = false) (_hn : (n == 0) = false) (hnx : (n != 0) = true) :
    Calls Tryz.prog 25 #[(VD.mk 1 true n t a c ks ka kc keys).val] W (BoE W (formed (VD.mk 1 true n t a c ks ka kc keys).v)) := by
  have hfe : formed (VD.mk 1 true n t a c ks ka kc keys).v = (headF 1 true n t ks.length keys.length && Lib.validD t && distinct keys && formeds (ks.map VD.v)) := by
    rw [VD.v_eq, formed, headF_ok, List.length_map]; rfl
  obtain ⟨R, hR⟩ : ∃ R : Bool, R = formed (VD.mk 1 true n t a c ks ka kc keys).v := ⟨_, rfl⟩
  rw [← hR] at hfe ⊢
  clear hR
  have hb1 := below_a1 W (.cells #[.int .i64 1, .bool true, .int .i64 n, .string ⟨t.toArray⟩, .slice a ks.length c, .slice ka keys.length kc] 26)
  have HB := Lib.hid hb1
  have HF : Hid (R = false) := Lib.hid (by rw [hfe, hh]; rfl)
  simp only [VD.val, VD.cells, strV]
  clear hb1 hfe hh
  go_enter Tryz.func25, Tryz.ntmps25
  go_wp2
  go_ret
  exact ⟨by first | (rw [HF.out]; done) | (rw [HF.out]; rfl), HB.out⟩

set_option maxHeartbeats 2000000 in
set_option maxRecDepth 20000 in
theorem frmF3a (s : Int) (u : UInt8) (t : Nm) (a : Option Addr) (c : Nat) (ks : List VD) (ka : Option Addr) (kc : Nat) (keys : List Nm) (W : World) (hh : headF s false 0 (u :: t) ks.length keys.length = false) (_hs3 : (s == 3) = false) (hs3x : (s != 3) = true) :
    Calls Tryz.prog 25 #[(VD.mk s false 0 (u :: t) a c ks ka kc keys).val] W (BoE W (formed (VD.mk s false 0 (u :: t) a c ks ka kc keys).v)) := by
  have hfe : formed (VD.mk s false 0 (u :: t) a c ks ka kc keys).v = (headF s false 0 (u :: t) ks.length keys.length && Lib.validD (u :: t) && distinct keys && formeds (ks.map VD.v)) := by
    rw [VD.v_eq, formed, headF_ok, List.length_map]; rfl
  obtain ⟨R, hR⟩ : ∃ R : Bool, R = formed (VD.mk s false 0 (u :: t) a c ks ka kc keys).v := ⟨_, rfl⟩
  rw [← hR] at hfe ⊢
  clear hR
  have hb1 := below_a1 W (.cells #[.int .i64 s, .bool false, .int .i64 0, .string ⟨(u :: t).toArray⟩, .slice a ks.length c, .slice ka keys.length kc] 26)
  have HB := Lib.hid hb1
  have HF : Hid (R = false) := Lib.hid (by rw [hfe, hh]; rfl)
  simp only [VD.val, VD.cells, strV]
  clear hb1 hfe hh
  go_enter Tryz.func25, Tryz.ntmps25
  go_wp2
  go_ret
  exact ⟨by first | (rw [HF.out]; done) | (rw [HF.out]; rfl), HB.out⟩

set_option maxHeartbeats 2000000 in
set_option maxRecDepth 20000 in
theorem frmF3b (u : UInt8) (t : Nm) (a : Option Addr) (c : Nat) (ks : List VD) (ka : Option Addr) (kc : Nat) (keys : List Nm) (W : World) (hh : headF 1 true 0 (u :: t) ks.length keys.length = false)  :
    Calls Tryz.prog 25 #[(VD.mk 1 true 0 (u :: t) a c ks ka kc keys).val] W (BoE W (formed (VD.mk 1 true 0 (u :: t) a c ks ka kc keys).v)) := by
  have hfe : formed (VD.mk 1 true 0 (u :: t) a c ks ka kc keys).v = (headF 1 true 0 (u :: t) ks.length keys.length && Lib.validD (u :: t) && distinct keys && formeds (ks.map VD.v)) := by
    rw [VD.v_eq, formed, headF_ok, List.length_map]; rfl
  obtain ⟨R, hR⟩ : ∃ R : Bool, R = formed (VD.mk 1 true 0 (u :: t) a c ks ka kc keys).v := ⟨_, rfl⟩
  rw [← hR] at hfe ⊢
  clear hR
  have hb1 := below_a1 W (.cells #[.int .i64 1, .bool true, .int .i64 0, .string ⟨(u :: t).toArray⟩, .slice a ks.length c, .slice ka keys.length kc] 26)
  have HB := Lib.hid hb1
  have HF : Hid (R = false) := Lib.hid (by rw [hfe, hh]; rfl)
  simp only [VD.val, VD.cells, strV]
  clear hb1 hfe hh
  go_enter Tryz.func25, Tryz.ntmps25
  go_wp2
  go_ret
  exact ⟨by first | (rw [HF.out]; done) | (rw [HF.out]; rfl), HB.out⟩

set_option maxHeartbeats 2000000 in
set_option maxRecDepth 20000 in
theorem frmF3c (n : Int) (u : UInt8) (t : Nm) (a : Option Addr) (c : Nat) (ks : List VD) (ka : Option Addr) (kc : Nat) (keys : List Nm) (W : World) (hh : headF 2 false n (u :: t) ks.length keys.length = false) (_hn : (n == 0) = false) (hnx : (n != 0) = true) :
    Calls Tryz.prog 25 #[(VD.mk 2 false n (u :: t) a c ks ka kc keys).val] W (BoE W (formed (VD.mk 2 false n (u :: t) a c ks ka kc keys).v)) := by
  have hfe : formed (VD.mk 2 false n (u :: t) a c ks ka kc keys).v = (headF 2 false n (u :: t) ks.length keys.length && Lib.validD (u :: t) && distinct keys && formeds (ks.map VD.v)) := by
    rw [VD.v_eq, formed, headF_ok, List.length_map]; rfl
  obtain ⟨R, hR⟩ : ∃ R : Bool, R = formed (VD.mk 2 false n (u :: t) a c ks ka kc keys).v := ⟨_, rfl⟩
  rw [← hR] at hfe ⊢
  clear hR
  have hb1 := below_a1 W (.cells #[.int .i64 2, .bool false, .int .i64 n, .string ⟨(u :: t).toArray⟩, .slice a ks.length c, .slice ka keys.length kc] 26)
  have HB := Lib.hid hb1
  have HF : Hid (R = false) := Lib.hid (by rw [hfe, hh]; rfl)
  simp only [VD.val, VD.cells, strV]
  clear hb1 hfe hh
  go_enter Tryz.func25, Tryz.ntmps25
  go_wp2
  go_ret
  exact ⟨by first | (rw [HF.out]; done) | (rw [HF.out]; rfl), HB.out⟩

set_option maxHeartbeats 2000000 in
set_option maxRecDepth 20000 in
theorem frmF4a (s : Int) (a : Option Addr) (c : Nat) (ks : List VD) (ka : Option Addr) (kc : Nat) (keys : List Nm) (W : World) (hh : headF s false 0 ([] : Nm) ks.length keys.length = false) (_hs5 : (s == 5) = false) (hs5x : (s != 5) = true)(hk : (0 : Int) < (keys.length : Int)) :
    Calls Tryz.prog 25 #[(VD.mk s false 0 [] a c ks ka kc keys).val] W (BoE W (formed (VD.mk s false 0 [] a c ks ka kc keys).v)) := by
  have hfe : formed (VD.mk s false 0 [] a c ks ka kc keys).v = (headF s false 0 ([] : Nm) ks.length keys.length && Lib.validD ([] : Nm) && distinct keys && formeds (ks.map VD.v)) := by
    rw [VD.v_eq, formed, headF_ok, List.length_map]; rfl
  obtain ⟨R, hR⟩ : ∃ R : Bool, R = formed (VD.mk s false 0 [] a c ks ka kc keys).v := ⟨_, rfl⟩
  rw [← hR] at hfe ⊢
  clear hR
  have hb1 := below_a1 W (.cells #[.int .i64 s, .bool false, .int .i64 0, .string ⟨([] : Nm).toArray⟩, .slice a ks.length c, .slice ka keys.length kc] 26)
  have HB := Lib.hid hb1
  have HF : Hid (R = false) := Lib.hid (by rw [hfe, hh]; rfl)
  simp only [VD.val, VD.cells, strV]
  clear hb1 hfe hh
  go_enter Tryz.func25, Tryz.ntmps25
  go_wp2
  go_ret
  exact ⟨by first | (rw [HF.out]; done) | (rw [HF.out]; rfl), HB.out⟩

set_option maxHeartbeats 2000000 in
set_option maxRecDepth 20000 in
theorem frmF4b (a : Option Addr) (c : Nat) (ks : List VD) (ka : Option Addr) (kc : Nat) (keys : List Nm) (W : World) (hh : headF 1 true 0 ([] : Nm) ks.length keys.length = false) (hk : (0 : Int) < (keys.length : Int)) :
    Calls Tryz.prog 25 #[(VD.mk 1 true 0 [] a c ks ka kc keys).val] W (BoE W (formed (VD.mk 1 true 0 [] a c ks ka kc keys).v)) := by
  have hfe : formed (VD.mk 1 true 0 [] a c ks ka kc keys).v = (headF 1 true 0 ([] : Nm) ks.length keys.length && Lib.validD ([] : Nm) && distinct keys && formeds (ks.map VD.v)) := by
    rw [VD.v_eq, formed, headF_ok, List.length_map]; rfl
  obtain ⟨R, hR⟩ : ∃ R : Bool, R = formed (VD.mk 1 true 0 [] a c ks ka kc keys).v := ⟨_, rfl⟩
  rw [← hR] at hfe ⊢
  clear hR
  have hb1 := below_a1 W (.cells #[.int .i64 1, .bool true, .int .i64 0, .string ⟨([] : Nm).toArray⟩, .slice a ks.length c, .slice ka keys.length kc] 26)
  have HB := Lib.hid hb1
  have HF : Hid (R = false) := Lib.hid (by rw [hfe, hh]; rfl)
  simp only [VD.val, VD.cells, strV]
  clear hb1 hfe hh
  go_enter Tryz.func25, Tryz.ntmps25
  go_wp2
  go_ret
  exact ⟨by first | (rw [HF.out]; done) | (rw [HF.out]; rfl), HB.out⟩

set_option maxHeartbeats 2000000 in
set_option maxRecDepth 20000 in
theorem frmF4c (n : Int) (a : Option Addr) (c : Nat) (ks : List VD) (ka : Option Addr) (kc : Nat) (keys : List Nm) (W : World) (hh : headF 2 false n ([] : Nm) ks.length keys.length = false) (_hn : (n == 0) = false) (hnx : (n != 0) = true)(hk : (0 : Int) < (keys.length : Int)) :
    Calls Tryz.prog 25 #[(VD.mk 2 false n [] a c ks ka kc keys).val] W (BoE W (formed (VD.mk 2 false n [] a c ks ka kc keys).v)) := by
  have hfe : formed (VD.mk 2 false n [] a c ks ka kc keys).v = (headF 2 false n ([] : Nm) ks.length keys.length && Lib.validD ([] : Nm) && distinct keys && formeds (ks.map VD.v)) := by
    rw [VD.v_eq, formed, headF_ok, List.length_map]; rfl
  obtain ⟨R, hR⟩ : ∃ R : Bool, R = formed (VD.mk 2 false n [] a c ks ka kc keys).v := ⟨_, rfl⟩
  rw [← hR] at hfe ⊢
  clear hR
  have hb1 := below_a1 W (.cells #[.int .i64 2, .bool false, .int .i64 n, .string ⟨([] : Nm).toArray⟩, .slice a ks.length c, .slice ka keys.length kc] 26)
  have HB := Lib.hid hb1
  have HF : Hid (R = false) := Lib.hid (by rw [hfe, hh]; rfl)
  simp only [VD.val, VD.cells, strV]
  clear hb1 hfe hh
  go_enter Tryz.func25, Tryz.ntmps25
  go_wp2
  go_ret
  exact ⟨by first | (rw [HF.out]; done) | (rw [HF.out]; rfl), HB.out⟩

set_option maxHeartbeats 2000000 in
set_option maxRecDepth 20000 in
theorem frmF4d (u : UInt8) (t : Nm) (a : Option Addr) (c : Nat) (ks : List VD) (ka : Option Addr) (kc : Nat) (keys : List Nm) (W : World) (hh : headF 3 false 0 (u :: t) ks.length keys.length = false) (hk : (0 : Int) < (keys.length : Int)) :
    Calls Tryz.prog 25 #[(VD.mk 3 false 0 (u :: t) a c ks ka kc keys).val] W (BoE W (formed (VD.mk 3 false 0 (u :: t) a c ks ka kc keys).v)) := by
  have hfe : formed (VD.mk 3 false 0 (u :: t) a c ks ka kc keys).v = (headF 3 false 0 (u :: t) ks.length keys.length && Lib.validD (u :: t) && distinct keys && formeds (ks.map VD.v)) := by
    rw [VD.v_eq, formed, headF_ok, List.length_map]; rfl
  obtain ⟨R, hR⟩ : ∃ R : Bool, R = formed (VD.mk 3 false 0 (u :: t) a c ks ka kc keys).v := ⟨_, rfl⟩
  rw [← hR] at hfe ⊢
  clear hR
  have hb1 := below_a1 W (.cells #[.int .i64 3, .bool false, .int .i64 0, .string ⟨(u :: t).toArray⟩, .slice a ks.length c, .slice ka keys.length kc] 26)
  have HB := Lib.hid hb1
  have HF : Hid (R = false) := Lib.hid (by rw [hfe, hh]; rfl)
  simp only [VD.val, VD.cells, strV]
  clear hb1 hfe hh
  go_enter Tryz.func25, Tryz.ntmps25
  go_wp2
  go_ret
  exact ⟨by first | (rw [HF.out]; done) | (rw [HF.out]; rfl), HB.out⟩

set_option maxHeartbeats 2000000 in
set_option maxRecDepth 20000 in
theorem frmF5a (s : Int) (a : Option Addr) (c : Nat) (ks : List VD) (ka : Option Addr) (kc : Nat) (keys : List Nm) (W : World) (hh : headF s false 0 ([] : Nm) ks.length keys.length = false) (_hs4 : (s == 4) = false) (hs4x : (s != 4) = true)(_hs5 : (s == 5) = false) (hs5x : (s != 5) = true)(hk : ¬ ((0 : Int) < (keys.length : Int)))(hm : (0 : Int) < (ks.length : Int)) :
    Calls Tryz.prog 25 #[(VD.mk s false 0 [] a c ks ka kc keys).val] W (BoE W (formed (VD.mk s false 0 [] a c ks ka kc keys).v)) := by
  have hfe : formed (VD.mk s false 0 [] a c ks ka kc keys).v = (headF s false 0 ([] : Nm) ks.length keys.length && Lib.validD ([] : Nm) && distinct keys && formeds (ks.map VD.v)) := by
    rw [VD.v_eq, formed, headF_ok, List.length_map]; rfl
  obtain ⟨R, hR⟩ : ∃ R : Bool, R = formed (VD.mk s false 0 [] a c ks ka kc keys).v := ⟨_, rfl⟩
  rw [← hR] at hfe ⊢
  clear hR
  have hb1 := below_a1 W (.cells #[.int .i64 s, .bool false, .int .i64 0, .string ⟨([] : Nm).toArray⟩, .slice a ks.length c, .slice ka keys.length kc] 26)
  have HB := Lib.hid hb1
  have HF : Hid (R = false) := Lib.hid (by rw [hfe, hh]; rfl)
  simp only [VD.val, VD.cells, strV]
  clear hb1 hfe hh
  go_enter Tryz.func25, Tryz.ntmps25
  go_wp2
  go_ret
  exact ⟨by first | (rw [HF.out]; done) | (rw [HF.out]; rfl), HB.out⟩

set_option maxHeartbeats 2000000 in
set_option maxRecDepth 20000 in
theorem frmF5b (a : Option Addr) (c : Nat) (ks : List VD) (ka : Option Addr) (kc : Nat) (keys : List Nm) (W : World) (hh : headF 1 true 0 ([] : Nm) ks.length keys.length = false) (hk : ¬ ((0 : Int) < (keys.length : Int)))(hm : (0 : Int) < (ks.length : Int)) :
    Calls Tryz.prog 25 #[(VD.mk 1 true 0 [] a c ks ka kc keys).val] W (BoE W (formed (VD.mk 1 true 0 [] a c ks ka kc keys).v)) := by
  have hfe : formed (VD.mk 1 true 0 [] a c ks ka kc keys).v = (headF 1 true 0 ([] : Nm) ks.length keys.length && Lib.validD ([] : Nm) && distinct keys && formeds (ks.map VD.v)) := by
    rw [VD.v_eq, formed, headF_ok, List.length_map]; rfl
  obtain ⟨R, hR⟩ : ∃ R : Bool, R = formed (VD.mk 1 true 0 [] a c ks ka kc keys).v := ⟨_, rfl⟩
  rw [← hR] at hfe ⊢
  clear hR
  have hb1 := below_a1 W (.cells #[.int .i64 1, .bool true, .int .i64 0, .string ⟨([] : Nm).toArray⟩, .slice a ks.length c, .slice ka keys.length kc] 26)
  have HB := Lib.hid hb1
  have HF : Hid (R = false) := Lib.hid (by rw [hfe, hh]; rfl)
  simp only [VD.val, VD.cells, strV]
  clear hb1 hfe hh
  go_enter Tryz.func25, Tryz.ntmps25
  go_wp2
  go_ret
  exact ⟨by first | (rw [HF.out]; done) | (rw [HF.out]; rfl), HB.out⟩

set_option maxHeartbeats 2000000 in
set_option maxRecDepth 20000 in
theorem frmF5c (n : Int) (a : Option Addr) (c : Nat) (ks : List VD) (ka : Option Addr) (kc : Nat) (keys : List Nm) (W : World) (hh : headF 2 false n ([] : Nm) ks.length keys.length = false) (_hn : (n == 0) = false) (hnx : (n != 0) = true)(hk : ¬ ((0 : Int) < (keys.length : Int)))(hm : (0 : Int) < (ks.length : Int)) :
    Calls Tryz.prog 25 #[(VD.mk 2 false n [] a c ks ka kc keys).val] W (BoE W (formed (VD.mk 2 false n [] a c ks ka kc keys).v)) := by
  have hfe : formed (VD.mk 2 false n [] a c ks ka kc keys).v = (headF 2 false n ([] : Nm) ks.length keys.length && Lib.validD ([] : Nm) && distinct keys && formeds (ks.map VD.v)) := by
    rw [VD.v_eq, formed, headF_ok, List.length_map]; rfl
  obtain ⟨R, hR⟩ : ∃ R : Bool, R = formed (VD.mk 2 false n [] a c ks ka kc keys).v := ⟨_, rfl⟩
  rw [← hR] at hfe ⊢
  clear hR
  have hb1 := below_a1 W (.cells #[.int .i64 2, .bool false, .int .i64 n, .string ⟨([] : Nm).toArray⟩, .slice a ks.length c, .slice ka keys.length kc] 26)
  have HB := Lib.hid hb1
  have HF : Hid (R = false) := Lib.hid (by rw [hfe, hh]; rfl)
  simp only [VD.val, VD.cells, strV]
  clear hb1 hfe hh
  go_enter Tryz.func25, Tryz.ntmps25
  go_wp2
  go_ret
  exact ⟨by first | (rw [HF.out]; done) | (rw [HF.out]; rfl), HB.out⟩

set_option maxHeartbeats 2000000 in
set_option maxRecDepth 20000 in
theorem frmF5d (u : UInt8) (t : Nm) (a : Option Addr) (c : Nat) (ks : List VD) (ka : Option Addr) (kc : Nat) (keys : List Nm) (W : World) (hh : headF 3 false 0 (u :: t) ks.length keys.length = false) (hk : ¬ ((0 : Int) < (keys.length : Int)))(hm : (0 : Int) < (ks.length : Int)) :
    Calls Tryz.prog 25 #[(VD.mk 3 false 0 (u :: t) a c ks ka kc keys).val] W (BoE W (formed (VD.mk 3 false 0 (u :: t) a c ks ka kc keys).v)) := by
  have hfe : formed (VD.mk 3 false 0 (u :: t) a c ks ka kc keys).v = (headF 3 false 0 (u :: t) ks.length keys.length && Lib.validD (u :: t) && distinct keys && formeds (ks.map VD.v)) := by
    rw [VD.v_eq, formed, headF_ok, List.length_map]; rfl
  obtain ⟨R, hR⟩ : ∃ R : Bool, R = formed (VD.mk 3 false 0 (u :: t) a c ks ka kc keys).v := ⟨_, rfl⟩
  rw [← hR] at hfe ⊢
  clear hR
  have hb1 := below_a1 W (.cells #[.int .i64 3, .bool false, .int .i64 0, .string ⟨(u :: t).toArray⟩, .slice a ks.length c, .slice ka keys.length kc] 26)
  have HB := Lib.hid hb1
  have HF : Hid (R = false) := Lib.hid (by rw [hfe, hh]; rfl)
  simp only [VD.val, VD.cells, strV]
  clear hb1 hfe hh
  go_enter Tryz.func25, Tryz.ntmps25
  go_wp2
  go_ret
  exact ⟨by first | (rw [HF.out]; done) | (rw [HF.out]; rfl), HB.out⟩

set_option maxHeartbeats 2000000 in
set_option maxRecDepth 20000 in
theorem frmG1 (s : Int) (a : Option Addr) (c : Nat) (ks : List VD) (ka : Option Addr) (kc : Nat) (keys : List Nm) (W : World) (hh : headF s false 0 ([] : Nm) ks.length keys.length = false) (hk : ¬ ((0 : Int) < (keys.length : Int)))(hm : ¬ ((0 : Int) < (ks.length : Int)))(hs : s < 0) :
    Calls Tryz.prog 25 #[(VD.mk s false 0 [] a c ks ka kc keys).val] W (BoE W (formed (VD.mk s false 0 [] a c ks ka kc keys).v)) := by
  have hfe : formed (VD.mk s false 0 [] a c ks ka kc keys).v = (headF s false 0 ([] : Nm) ks.length keys.length && Lib.validD ([] : Nm) && distinct keys && formeds (ks.map VD.v)) := by
    rw [VD.v_eq, formed, headF_ok, List.length_map]; rfl
  obtain ⟨R, hR⟩ : ∃ R : Bool, R = formed (VD.mk s false 0 [] a c ks ka kc keys).v := ⟨_, rfl⟩
  rw [← hR] at hfe ⊢
  clear hR
  have hb1 := below_a1 W (.cells #[.int .i64 s, .bool false, .int .i64 0, .string ⟨([] : Nm).toArray⟩, .slice a ks.length c, .slice ka keys.length kc] 26)
  have HB := Lib.hid hb1
  have HF : Hid (R = false) := Lib.hid (by rw [hfe, hh]; rfl)
  simp only [VD.val, VD.cells, strV]
  clear hb1 hfe hh
  go_enter Tryz.func25, Tryz.ntmps25
  go_wp2
  go_ret
  exact ⟨by first | (rw [HF.out]; done) | (rw [HF.out]; rfl), HB.out⟩

set_option maxHeartbeats 2000000 in
set_option maxRecDepth 20000 in
theorem frmG2 (s : Int) (a : Option Addr) (c : Nat) (ks : List VD) (ka : Option Addr) (kc : Nat) (keys : List Nm) (W : World) (hh : headF s false 0 ([] : Nm) ks.length keys.length = false) (hk : ¬ ((0 : Int) < (keys.length : Int)))(hm : ¬ ((0 : Int) < (ks.length : Int)))(hs0 : ¬ s < 0) (hs : 5 < s) :
    Calls Tryz.prog 25 #[(VD.mk s false 0 [] a c ks ka kc keys).val] W (BoE W (formed (VD.mk s false 0 [] a c ks ka kc keys).v)) := by
  have hfe : formed (VD.mk s false 0 [] a c ks ka kc keys).v = (headF s false 0 ([] : Nm) ks.length keys.length && Lib.validD ([] : Nm) && distinct keys && formeds (ks.map VD.v)) := by
    rw [VD.v_eq, formed, headF_ok, List.length_map]; rfl
  obtain ⟨R, hR⟩ : ∃ R : Bool, R = formed (VD.mk s false 0 [] a c ks ka kc keys).v := ⟨_, rfl⟩
  rw [← hR] at hfe ⊢
  clear hR
  have hb1 := below_a1 W (.cells #[.int .i64 s, .bool false, .int .i64 0, .string ⟨([] : Nm).toArray⟩, .slice a ks.length c, .slice ka keys.length kc] 26)
  have HB := Lib.hid hb1
  have HF : Hid (R = false) := Lib.hid (by rw [hfe, hh]; rfl)
  simp only [VD.val, VD.cells, strV]
  clear hb1 hfe hh
  go_enter Tryz.func25, Tryz.ntmps25
  go_wp2
  go_ret
  exact ⟨by first | (rw [HF.out]; done) | (rw [HF.out]; rfl), HB.out⟩

set_option maxHeartbeats 2000000 in
set_option maxRecDepth 20000 in
theorem frmG3 (n : Int) (a : Option Addr) (c : Nat) (ks : List VD) (ka : Option Addr) (kc : Nat) (keys : List Nm) (W : World) (hh : headF 2 false n ([] : Nm) ks.length keys.length = false) (_hn : (n == 0) = false) (hnx : (n != 0) = true)(hk : ¬ ((0 : Int) < (keys.length : Int)))(hm : ¬ ((0 : Int) < (ks.length : Int)))(hn1 : n < -9007199254740992) :
    Calls Tryz.prog 25 #[(VD.mk 2 false n [] a c ks ka kc keys).val] W (BoE W (formed (VD.mk 2 false n [] a c ks ka kc keys).v)) := by
  have hfe : formed (VD.mk 2 false n [] a c ks ka kc keys).v = (headF 2 false n ([] : Nm) ks.length keys.length && Lib.validD ([] : Nm) && distinct keys && formeds (ks.map VD.v)) := by
    rw [VD.v_eq, formed, headF_ok, List.length_map]; rfl
  obtain ⟨R, hR⟩ : ∃ R : Bool, R = formed (VD.mk 2 false n [] a c ks ka kc keys).v := ⟨_, rfl⟩
  rw [← hR] at hfe ⊢
  clear hR
  have hb1 := below_a1 W (.cells #[.int .i64 2, .bool false, .int .i64 n, .string ⟨([] : Nm).toArray⟩, .slice a ks.length c, .slice ka keys.length kc] 26)
  have HB := Lib.hid hb1
  have HF : Hid (R = false) := Lib.hid (by rw [hfe, hh]; rfl)
  simp only [VD.val, VD.cells, strV]
  clear hb1 hfe hh
  go_enter Tryz.func25, Tryz.ntmps25
  go_wp2
  go_ret
  exact ⟨by first | (rw [HF.out]; done) | (rw [HF.out]; rfl), HB.out⟩

set_option maxHeartbeats 2000000 in
set_option maxRecDepth 20000 in
theorem frmG4 (n : Int) (a : Option Addr) (c : Nat) (ks : List VD) (ka : Option Addr) (kc : Nat) (keys : List Nm) (W : World) (hh : headF 2 false n ([] : Nm) ks.length keys.length = false) (_hn : (n == 0) = false) (hnx : (n != 0) = true)(hk : ¬ ((0 : Int) < (keys.length : Int)))(hm : ¬ ((0 : Int) < (ks.length : Int)))(hn0 : ¬ n < -9007199254740992) (hn1 : 9007199254740992 < n) :
    Calls Tryz.prog 25 #[(VD.mk 2 false n [] a c ks ka kc keys).val] W (BoE W (formed (VD.mk 2 false n [] a c ks ka kc keys).v)) := by
  have hfe : formed (VD.mk 2 false n [] a c ks ka kc keys).v = (headF 2 false n ([] : Nm) ks.length keys.length && Lib.validD ([] : Nm) && distinct keys && formeds (ks.map VD.v)) := by
    rw [VD.v_eq, formed, headF_ok, List.length_map]; rfl
  obtain ⟨R, hR⟩ : ∃ R : Bool, R = formed (VD.mk 2 false n [] a c ks ka kc keys).v := ⟨_, rfl⟩
  rw [← hR] at hfe ⊢
  clear hR
  have hb1 := below_a1 W (.cells #[.int .i64 2, .bool false, .int .i64 n, .string ⟨([] : Nm).toArray⟩, .slice a ks.length c, .slice ka keys.length kc] 26)
  have HB := Lib.hid hb1
  have HF : Hid (R = false) := Lib.hid (by rw [hfe, hh]; rfl)
  simp only [VD.val, VD.cells, strV]
  clear hb1 hfe hh
  go_enter Tryz.func25, Tryz.ntmps25
  go_wp2
  go_ret
  exact ⟨by first | (rw [HF.out]; done) | (rw [HF.out]; rfl), HB.out⟩

set_option maxHeartbeats 2000000 in
set_option maxRecDepth 20000 in
theorem frmG5a (a : Option Addr) (c : Nat) (ks : List VD) (ka : Option Addr) (kc : Nat) (keys : List Nm) (W : World) (hh : headF 5 false 0 ([] : Nm) ks.length keys.length = false) (hk : (0 : Int) < (keys.length : Int))(hm : (0 : Int) < (ks.length : Int))(_hkm : ((keys.length : Int) == (ks.length : Int)) = false) (hkmx : ((keys.length : Int) != (ks.length : Int)) = true) :
    Calls Tryz.prog 25 #[(VD.mk 5 false 0 [] a c ks ka kc keys).val] W (BoE W (formed (VD.mk 5 false 0 [] a c ks ka kc keys).v)) := by
  have hfe : formed (VD.mk 5 false 0 [] a c ks ka kc keys).v = (headF 5 false 0 ([] : Nm) ks.length keys.length && Lib.validD ([] : Nm) && distinct keys && formeds (ks.map VD.v)) := by
    rw [VD.v_eq, formed, headF_ok, List.length_map]; rfl
  obtain ⟨R, hR⟩ : ∃ R : Bool, R = formed (VD.mk 5 false 0 [] a c ks ka kc keys).v := ⟨_, rfl⟩
  rw [← hR] at hfe ⊢
  clear hR
  have hb1 := below_a1 W (.cells #[.int .i64 5, .bool false, .int .i64 0, .string ⟨([] : Nm).toArray⟩, .slice a ks.length c, .slice ka keys.length kc] 26)
  have HB := Lib.hid hb1
  have HF : Hid (R = false) := Lib.hid (by rw [hfe, hh]; rfl)
  simp only [VD.val, VD.cells, strV]
  clear hb1 hfe hh
  go_enter Tryz.func25, Tryz.ntmps25
  go_wp2
  go_ret
  exact ⟨by first | (rw [HF.out]; done) | (rw [HF.out]; rfl), HB.out⟩

set_option maxHeartbeats 2000000 in
set_option maxRecDepth 20000 in
theorem frmG5b (a : Option Addr) (c : Nat) (ks : List VD) (ka : Option Addr) (kc : Nat) (keys : List Nm) (W : World) (hh : headF 5 false 0 ([] : Nm) ks.length keys.length = false) (hk : ¬ ((0 : Int) < (keys.length : Int)))(hm : (0 : Int) < (ks.length : Int))(_hkm : ((keys.length : Int) == (ks.length : Int)) = false) (hkmx : ((keys.length : Int) != (ks.length : Int)) = true) :
    Calls Tryz.prog 25 #[(VD.mk 5 false 0 [] a c ks ka kc keys).val] W (BoE W (formed (VD.mk 5 false 0 [] a c ks ka kc keys).v)) := by
  have hfe : formed (VD.mk 5 false 0 [] a c ks ka kc keys).v = (headF 5 false 0 ([] : Nm) ks.length keys.length && Lib.validD ([] : Nm) && distinct keys && formeds (ks.map VD.v)) := by
    rw [VD.v_eq, formed, headF_ok, List.length_map]; rfl
  obtain ⟨R, hR⟩ : ∃ R : Bool, R = formed (VD.mk 5 false 0 [] a c ks ka kc keys).v := ⟨_, rfl⟩
  rw [← hR] at hfe ⊢
  clear hR
  have hb1 := below_a1 W (.cells #[.int .i64 5, .bool false, .int .i64 0, .string ⟨([] : Nm).toArray⟩, .slice a ks.length c, .slice ka keys.length kc] 26)
  have HB := Lib.hid hb1
  have HF : Hid (R = false) := Lib.hid (by rw [hfe, hh]; rfl)
  simp only [VD.val, VD.cells, strV]
  clear hb1 hfe hh
  go_enter Tryz.func25, Tryz.ntmps25
  go_wp2
  go_ret
  exact ⟨by first | (rw [HF.out]; done) | (rw [HF.out]; rfl), HB.out⟩

set_option maxHeartbeats 2000000 in
set_option maxRecDepth 20000 in
theorem frmG5c (a : Option Addr) (c : Nat) (ks : List VD) (ka : Option Addr) (kc : Nat) (keys : List Nm) (W : World) (hh : headF 5 false 0 ([] : Nm) ks.length keys.length = false) (hk : (0 : Int) < (keys.length : Int))(hm : ¬ ((0 : Int) < (ks.length : Int)))(_hkm : ((keys.length : Int) == (ks.length : Int)) = false) (hkmx : ((keys.length : Int) != (ks.length : Int)) = true) :
    Calls Tryz.prog 25 #[(VD.mk 5 false 0 [] a c ks ka kc keys).val] W (BoE W (formed (VD.mk 5 false 0 [] a c ks ka kc keys).v)) := by
  have hfe : formed (VD.mk 5 false 0 [] a c ks ka kc keys).v = (headF 5 false 0 ([] : Nm) ks.length keys.length && Lib.validD ([] : Nm) && distinct keys && formeds (ks.map VD.v)) := by
    rw [VD.v_eq, formed, headF_ok, List.length_map]; rfl
  obtain ⟨R, hR⟩ : ∃ R : Bool, R = formed (VD.mk 5 false 0 [] a c ks ka kc keys).v := ⟨_, rfl⟩
  rw [← hR] at hfe ⊢
  clear hR
  have hb1 := below_a1 W (.cells #[.int .i64 5, .bool false, .int .i64 0, .string ⟨([] : Nm).toArray⟩, .slice a ks.length c, .slice ka keys.length kc] 26)
  have HB := Lib.hid hb1
  have HF : Hid (R = false) := Lib.hid (by rw [hfe, hh]; rfl)
  simp only [VD.val, VD.cells, strV]
  clear hb1 hfe hh
  go_enter Tryz.func25, Tryz.ntmps25
  go_wp2
  go_ret
  exact ⟨by first | (rw [HF.out]; done) | (rw [HF.out]; rfl), HB.out⟩

set_option maxHeartbeats 16000000 in
set_option maxRecDepth 20000 in
theorem frmR_0 (a : Option Addr) (c : Nat) (ks : List VD) (ka : Option Addr) (kc : Nat) (keys : List Nm) (W : World) (h : ValAt W (fun _ => True) (.mk 0 false 0 [] a c ks ka kc keys)) (hw : sizeV (VD.mk 0 false 0 [] a c ks ka kc keys).v ≤ 1048576) (hh : headF 0 false 0 ([] : Nm) ks.length keys.length = true) (ih : ∀ x ∈ ks, FrmAt x) (hk0 : ¬ ((0 : Int) < (keys.length : Int))) (hm0 : ¬ ((0 : Int) < (ks.length : Int))) :
    Calls Tryz.prog 25 #[(VD.mk 0 false 0 [] a c ks ka kc keys).val] W (BoE W (formed (VD.mk 0 false 0 [] a c ks ka kc keys).v)) := by
  have hfe : formed (VD.mk 0 false 0 [] a c ks ka kc keys).v = (headF 0 false 0 ([] : Nm) ks.length keys.length && Lib.validD ([] : Nm) && distinct keys && formeds (ks.map VD.v)) := by
    rw [VD.v_eq, formed, headF_ok, List.length_map]; rfl
  obtain ⟨R, hR⟩ : ∃ R : Bool, R = formed (VD.mk 0 false 0 [] a c ks ka kc keys).v := ⟨_, rfl⟩
  rw [← hR] at hfe ⊢
  clear hR
  have hb1 := below_a1 W (.cells #[.int .i64 0, .bool false, .int .i64 0, .string ⟨([] : Nm).toArray⟩, .slice a ks.length c, .slice ka keys.length kc] 26)
  have hsz := sizeV_eq (.mk 0 false 0 ([] : Nm) a c ks ka kc keys)
  simp only [VD.text, VD.keys, VD.list] at hsz
  rw [hsz] at hw
  have hkx : ∀ x ∈ keys, x.length ≤ 1048576 := fun x hx => by
    obtain ⟨i, hi⟩ := List.getElem?_of_mem hx
    have h1 := keysN_take hi
    have h2 := keysN_le keys (i + 1)
    omega
  have hkl := keysN_len keys
  have HKX := Lib.hid hkx
  have HR := Lib.hid h.row
  have HKR := Lib.hid h.krow
  simp only [VD.keys, VD.list, VD.ka, VD.a] at HR HKR
  have HKID : Hid (∀ x ∈ ks, ValAt W (fun _ => True) x) := Lib.hid h.kid
  have HI : Hid (∀ x ∈ ks, ∀ V, ValAt V (fun _ => True) x → Calls Tryz.prog 25 #[x.val] V (BoE V (formed x.v))) := Lib.hid fun x hx V hV => ih x hx V hV (by
    have h1 := sizesV_mem (l := ks.map VD.v) (List.mem_map_of_mem hx)
    omega)
  have hml : ks.length ≤ sizesV (ks.map VD.v) := by have := sizesV_len (ks.map VD.v); simpa using this
  obtain ⟨k, hk⟩ : ∃ k, k = keys.length := ⟨_, rfl⟩
  obtain ⟨m, hm⟩ : ∃ m, m = ks.length := ⟨_, rfl⟩
  have HKL := Lib.hid hk
  rw [← hk] at hk0
  rw [← hm] at hm0
  have HML := Lib.hid hm
  have HRR : Hid (R = (Lib.validD ([] : Nm) && distinct keys && formeds (ks.map VD.v))) := Lib.hid (by rw [hfe, hh, Bool.true_and])
  have hkb : k ≤ 1048576 := by omega
  have hmb : m ≤ 1048576 := by omega
  simp only [VD.val, VD.cells, strV]
  rw [← hk, ← hm]
  clear hb1
  have hb1 := below_a1 W (.cells #[.int .i64 0, .bool false, .int .i64 0, .string ⟨([] : Nm).toArray⟩, .slice a m c, .slice ka k kc] 26)
  have HRT := Lib.hid (ref_right_any ([] : Nm) (W.alloc (.cells #[.int .i64 0, .bool false, .int .i64 0, .string ⟨([] : Nm).toArray⟩, .slice a m c, .slice ka k kc] 26)) (by first | (simp; done) | (simp only [List.length_cons] at hw ⊢; omega)))
  have HBL : Hid (Blk (W.alloc (.cells #[.int .i64 0, .bool false, .int .i64 0, .string ⟨([] : Nm).toArray⟩, .slice a m c, .slice ka k kc] 26)) W.heap.size #[.int .i64 0, .bool false, .int .i64 0, .string ⟨([] : Nm).toArray⟩, .slice a m c, .slice ka k kc] 26) := Lib.hid (Blk.new rfl)
  have Hb1 := Lib.hid hb1
  clear ih h hw hsz hkx hkl hml hfe hh hb1 hk hm
  go_enter Tryz.func25, Tryz.ntmps25
  go_upto_region 1 with (fail)
  obtain ⟨w1, hw1⟩ : ∃ w1, w1 = W.alloc (.cells #[.int .i64 0, .bool false, .int .i64 0, .string ⟨([] : Nm).toArray⟩, .slice a m c, .slice ka k kc] 26) := ⟨_, rfl⟩
  rw [← hw1] at HRT HBL Hb1 ⊢
  clear hw1
  obtain ⟨c0, c1, c2, c3, c4, c5⟩ := HBL.out.sixT
  go_wp2_with fail
  refine HRT.out.mono ?_
  clear HRT
  rintro e w2 ⟨rfl, hb2⟩
  have HB2 := Lib.hid (Hb1.out.trans (hb2.mono Hb1.out.size))
  have HBL2 := Lib.hid (HBL.out.ext hb2)
  obtain ⟨b0, hb0⟩ : ∃ b0, b0 = Lib.validD ([] : Nm) := ⟨_, rfl⟩
  have HZ0 := Lib.hid hb0
  rw [← hb0]
  clear hb2 hb0 c0 c1 c2 c3 c4 c5
  obtain ⟨c0, c1, c2, c3, c4, c5⟩ := HBL2.out.sixT
  go_wp2_with fail
  clear c0 c1 c2 c3 c4 c5
  go_loopw [3, 4, 5, 6] (fun r i _ _ wr => ∃ (q : Nat) (rq : Bool), q ≤ k ∧ i = .int .i64 q ∧ r = .bool rq ∧ Hid (rq = (b0 && distinct (keys.take q))) ∧ Hid (Below w2.heap.size w2 wr)) (fun _ i _ _ _ => k - (intOf i).toNat)
  case atStart => exact ⟨0, b0, Nat.zero_le _, rfl, rfl, Lib.hid (by simp [distinct]), Lib.hid (Below.refl _ _)⟩
  case round =>
    obtain ⟨q, rq, hq, rfl, rfl, HRQ, hb⟩ := hrel
    obtain ⟨c0, c1, c2, c3, c4, c5⟩ := (HBL2.out.ext hb.out).sixT
    by_cases hlt : q < k
    · exact absurd hlt (by omega)
    · obtain rfl : q = k := by omega
      have HRK : Hid (rq = (b0 && distinct keys)) := Lib.hid (by rw [HRQ.out, List.take_of_length_le (by have := HKL.out; omega)])
      have HB3 := Lib.hid (HB2.out.trans (hb.out.mono HB2.out.size))
      have HBL3 := Lib.hid (HBL2.out.ext hb.out)
      clear HRQ hb
      go_wp2_with fail
      clear c0 c1 c2 c3 c4 c5
      go_loopw [3, 7, 8] (fun r i _ wr' => ∃ (p : Nat) (r2 : Bool), p ≤ m ∧ i = .int .i64 p ∧ r = .bool r2 ∧ Hid (r2 = (rq && formeds ((ks.take p).map VD.v))) ∧ Hid (Below wr.heap.size wr wr')) (fun _ i _ _ => m - (intOf i).toNat)
      case atStart => exact ⟨0, rq, Nat.zero_le _, rfl, rfl, Lib.hid (by simp [formeds]), Lib.hid (Below.refl _ _)⟩
      case round =>
        obtain ⟨p, r2, hp, rfl, rfl, HR2, hb⟩ := hrel
        obtain ⟨c0, c1, c2, c3, c4, c5⟩ := (HBL3.out.ext hb.out).sixT
        by_cases hlt2 : p < m
        · exact absurd hlt2 (by omega)
        · obtain rfl : p = m := by omega
          have HF : Hid (r2 = R) := Lib.hid (by rw [HR2.out, HRK.out, HZ0.out, HRR.out, List.take_of_length_le (by have := HML.out; omega)])
          go_wp2
          go_ret
          exact ⟨by rw [← HF.out]; rfl, HB3.out.trans (hb.out.mono HB3.out.size)⟩

set_option maxHeartbeats 16000000 in
set_option maxRecDepth 20000 in
theorem frmR_1 (a : Option Addr) (c : Nat) (ks : List VD) (ka : Option Addr) (kc : Nat) (keys : List Nm) (W : World) (h : ValAt W (fun _ => True) (.mk 1 true 0 [] a c ks ka kc keys)) (hw : sizeV (VD.mk 1 true 0 [] a c ks ka kc keys).v ≤ 1048576) (hh : headF 1 true 0 ([] : Nm) ks.length keys.length = true) (ih : ∀ x ∈ ks, FrmAt x) (hk0 : ¬ ((0 : Int) < (keys.length : Int))) (hm0 : ¬ ((0 : Int) < (ks.length : Int))) :
    Calls Tryz.prog 25 #[(VD.mk 1 true 0 [] a c ks ka kc keys).val] W (BoE W (formed (VD.mk 1 true 0 [] a c ks ka kc keys).v)) := by
  have hfe : formed (VD.mk 1 true 0 [] a c ks ka kc keys).v = (headF 1 true 0 ([] : Nm) ks.length keys.length && Lib.validD ([] : Nm) && distinct keys && formeds (ks.map VD.v)) := by
    rw [VD.v_eq, formed, headF_ok, List.length_map]; rfl
  obtain ⟨R, hR⟩ : ∃ R : Bool, R = formed (VD.mk 1 true 0 [] a c ks ka kc keys).v := ⟨_, rfl⟩
  rw [← hR] at hfe ⊢
  clear hR
  have hb1 := below_a1 W (.cells #[.int .i64 1, .bool true, .int .i64 0, .string ⟨([] : Nm).toArray⟩, .slice a ks.length c, .slice ka keys.length kc] 26)
  have hsz := sizeV_eq (.mk 1 true 0 ([] : Nm) a c ks ka kc keys)
  simp only [VD.text, VD.keys, VD.list] at hsz
  rw [hsz] at hw
  have hkx : ∀ x ∈ keys, x.length ≤ 1048576 := fun x hx => by
    obtain ⟨i, hi⟩ := List.getElem?_of_mem hx
    have h1 := keysN_take hi
    have h2 := keysN_le keys (i + 1)
    omega
  have hkl := keysN_len keys
  have HKX := Lib.hid hkx
  have HR := Lib.hid h.row
  have HKR := Lib.hid h.krow
  simp only [VD.keys, VD.list, VD.ka, VD.a] at HR HKR
  have HKID : Hid (∀ x ∈ ks, ValAt W (fun _ => True) x) := Lib.hid h.kid
  have HI : Hid (∀ x ∈ ks, ∀ V, ValAt V (fun _ => True) x → Calls Tryz.prog 25 #[x.val] V (BoE V (formed x.v))) := Lib.hid fun x hx V hV => ih x hx V hV (by
    have h1 := sizesV_mem (l := ks.map VD.v) (List.mem_map_of_mem hx)
    omega)
  have hml : ks.length ≤ sizesV (ks.map VD.v) := by have := sizesV_len (ks.map VD.v); simpa using this
  obtain ⟨k, hk⟩ : ∃ k, k = keys.length := ⟨_, rfl⟩
  obtain ⟨m, hm⟩ : ∃ m, m = ks.length := ⟨_, rfl⟩
  have HKL := Lib.hid hk
  rw [← hk] at hk0
  rw [← hm] at hm0
  have HML := Lib.hid hm
  have HRR : Hid (R = (Lib.validD ([] : Nm) && distinct keys && formeds (ks.map VD.v))) := Lib.hid (by rw [hfe, hh, Bool.true_and])
  have hkb : k ≤ 1048576 := by omega
  have hmb : m ≤ 1048576 := by omega
  simp only [VD.val, VD.cells, strV]
  rw [← hk, ← hm]
  clear hb1
  have hb1 := below_a1 W (.cells #[.int .i64 1, .bool true, .int .i64 0, .string ⟨([] : Nm).toArray⟩, .slice a m c, .slice ka k kc] 26)
  have HRT := Lib.hid (ref_right_any ([] : Nm) (W.alloc (.cells #[.int .i64 1, .bool true, .int .i64 0, .string ⟨([] : Nm).toArray⟩, .slice a m c, .slice ka k kc] 26)) (by first | (simp; done) | (simp only [List.length_cons] at hw ⊢; omega)))
  have HBL : Hid (Blk (W.alloc (.cells #[.int .i64 1, .bool true, .int .i64 0, .string ⟨([] : Nm).toArray⟩, .slice a m c, .slice ka k kc] 26)) W.heap.size #[.int .i64 1, .bool true, .int .i64 0, .string ⟨([] : Nm).toArray⟩, .slice a m c, .slice ka k kc] 26) := Lib.hid (Blk.new rfl)
  have Hb1 := Lib.hid hb1
  clear ih h hw hsz hkx hkl hml hfe hh hb1 hk hm
  go_enter Tryz.func25, Tryz.ntmps25
  go_upto_region 1 with (fail)
  obtain ⟨w1, hw1⟩ : ∃ w1, w1 = W.alloc (.cells #[.int .i64 1, .bool true, .int .i64 0, .string ⟨([] : Nm).toArray⟩, .slice a m c, .slice ka k kc] 26) := ⟨_, rfl⟩
  rw [← hw1] at HRT HBL Hb1 ⊢
  clear hw1
  obtain ⟨c0, c1, c2, c3, c4, c5⟩ := HBL.out.sixT
  go_wp2_with fail
  refine HRT.out.mono ?_
  clear HRT
  rintro e w2 ⟨rfl, hb2⟩
  have HB2 := Lib.hid (Hb1.out.trans (hb2.mono Hb1.out.size))
  have HBL2 := Lib.hid (HBL.out.ext hb2)
  obtain ⟨b0, hb0⟩ : ∃ b0, b0 = Lib.validD ([] : Nm) := ⟨_, rfl⟩
  have HZ0 := Lib.hid hb0
  rw [← hb0]
  clear hb2 hb0 c0 c1 c2 c3 c4 c5
  obtain ⟨c0, c1, c2, c3, c4, c5⟩ := HBL2.out.sixT
  go_wp2_with fail
  clear c0 c1 c2 c3 c4 c5
  go_loopw [3, 4, 5, 6] (fun r i _ _ wr => ∃ (q : Nat) (rq : Bool), q ≤ k ∧ i = .int .i64 q ∧ r = .bool rq ∧ Hid (rq = (b0 && distinct (keys.take q))) ∧ Hid (Below w2.heap.size w2 wr)) (fun _ i _ _ _ => k - (intOf i).toNat)
  case atStart => exact ⟨0, b0, Nat.zero_le _, rfl, rfl, Lib.hid (by simp [distinct]), Lib.hid (Below.refl _ _)⟩
  case round =>
    obtain ⟨q, rq, hq, rfl, rfl, HRQ, hb⟩ := hrel
    obtain ⟨c0, c1, c2, c3, c4, c5⟩ := (HBL2.out.ext hb.out).sixT
    by_cases hlt : q < k
    · exact absurd hlt (by omega)
    · obtain rfl : q = k := by omega
      have HRK : Hid (rq = (b0 && distinct keys)) := Lib.hid (by rw [HRQ.out, List.take_of_length_le (by have := HKL.out; omega)])
      have HB3 := Lib.hid (HB2.out.trans (hb.out.mono HB2.out.size))
      have HBL3 := Lib.hid (HBL2.out.ext hb.out)
      clear HRQ hb
      go_wp2_with fail
      clear c0 c1 c2 c3 c4 c5
      go_loopw [3, 7, 8] (fun r i _ wr' => ∃ (p : Nat) (r2 : Bool), p ≤ m ∧ i = .int .i64 p ∧ r = .bool r2 ∧ Hid (r2 = (rq && formeds ((ks.take p).map VD.v))) ∧ Hid (Below wr.heap.size wr wr')) (fun _ i _ _ => m - (intOf i).toNat)
      case atStart => exact ⟨0, rq, Nat.zero_le _, rfl, rfl, Lib.hid (by simp [formeds]), Lib.hid (Below.refl _ _)⟩
      case round =>
        obtain ⟨p, r2, hp, rfl, rfl, HR2, hb⟩ := hrel
        obtain ⟨c0, c1, c2, c3, c4, c5⟩ := (HBL3.out.ext hb.out).sixT
        by_cases hlt2 : p < m
        · exact absurd hlt2 (by omega)
        · obtain rfl : p = m := by omega
          have HF : Hid (r2 = R) := Lib.hid (by rw [HR2.out, HRK.out, HZ0.out, HRR.out, List.take_of_length_le (by have := HML.out; omega)])
          go_wp2
          go_ret
          exact ⟨by rw [← HF.out]; rfl, HB3.out.trans (hb.out.mono HB3.out.size)⟩

set_option maxHeartbeats 16000000 in
set_option maxRecDepth 20000 in
theorem frmR_2 (a : Option Addr) (c : Nat) (ks : List VD) (ka : Option Addr) (kc : Nat) (keys : List Nm) (W : World) (h : ValAt W (fun _ => True) (.mk 1 false 0 [] a c ks ka kc keys)) (hw : sizeV (VD.mk 1 false 0 [] a c ks ka kc keys).v ≤ 1048576) (hh : headF 1 false 0 ([] : Nm) ks.length keys.length = true) (ih : ∀ x ∈ ks, FrmAt x) (hk0 : ¬ ((0 : Int) < (keys.length : Int))) (hm0 : ¬ ((0 : Int) < (ks.length : Int))) :
    Calls Tryz.prog 25 #[(VD.mk 1 false 0 [] a c ks ka kc keys).val] W (BoE W (formed (VD.mk 1 false 0 [] a c ks ka kc keys).v)) := by
  have hfe : formed (VD.mk 1 false 0 [] a c ks ka kc keys).v = (headF 1 false 0 ([] : Nm) ks.length keys.length && Lib.validD ([] : Nm) && distinct keys && formeds (ks.map VD.v)) := by
    rw [VD.v_eq, formed, headF_ok, List.length_map]; rfl
  obtain ⟨R, hR⟩ : ∃ R : Bool, R = formed (VD.mk 1 false 0 [] a c ks ka kc keys).v := ⟨_, rfl⟩
  rw [← hR] at hfe ⊢
  clear hR
  have hb1 := below_a1 W (.cells #[.int .i64 1, .bool false, .int .i64 0, .string ⟨([] : Nm).toArray⟩, .slice a ks.length c, .slice ka keys.length kc] 26)
  have hsz := sizeV_eq (.mk 1 false 0 ([] : Nm) a c ks ka kc keys)
  simp only [VD.text, VD.keys, VD.list] at hsz
  rw [hsz] at hw
  have hkx : ∀ x ∈ keys, x.length ≤ 1048576 := fun x hx => by
    obtain ⟨i, hi⟩ := List.getElem?_of_mem hx
    have h1 := keysN_take hi
    have h2 := keysN_le keys (i + 1)
    omega
  have hkl := keysN_len keys
  have HKX := Lib.hid hkx
  have HR := Lib.hid h.row
  have HKR := Lib.hid h.krow
  simp only [VD.keys, VD.list, VD.ka, VD.a] at HR HKR
  have HKID : Hid (∀ x ∈ ks, ValAt W (fun _ => True) x) := Lib.hid h.kid
  have HI : Hid (∀ x ∈ ks, ∀ V, ValAt V (fun _ => True) x → Calls Tryz.prog 25 #[x.val] V (BoE V (formed x.v))) := Lib.hid fun x hx V hV => ih x hx V hV (by
    have h1 := sizesV_mem (l := ks.map VD.v) (List.mem_map_of_mem hx)
    omega)
  have hml : ks.length ≤ sizesV (ks.map VD.v) := by have := sizesV_len (ks.map VD.v); simpa using this
  obtain ⟨k, hk⟩ : ∃ k, k = keys.length := ⟨_, rfl⟩
  obtain ⟨m, hm⟩ : ∃ m, m = ks.length := ⟨_, rfl⟩
  have HKL := Lib.hid hk
  rw [← hk] at hk0
  rw [← hm] at hm0
  have HML := Lib.hid hm
  have HRR : Hid (R = (Lib.validD ([] : Nm) && distinct keys && formeds (ks.map VD.v))) := Lib.hid (by rw [hfe, hh, Bool.true_and])
  have hkb : k ≤ 1048576 := by omega
  have hmb : m ≤ 1048576 := by omega
  simp only [VD.val, VD.cells, strV]
  rw [← hk, ← hm]
  clear hb1
  have hb1 := below_a1 W (.cells #[.int .i64 1, .bool false, .int .i64 0, .string ⟨([] : Nm).toArray⟩, .slice a m c, .slice ka k kc] 26)
  have HRT := Lib.hid (ref_right_any ([] : Nm) (W.alloc (.cells #[.int .i64 1, .bool false, .int .i64 0, .string ⟨([] : Nm).toArray⟩, .slice a m c, .slice ka k kc] 26)) (by first | (simp; done) | (simp only [List.length_cons] at hw ⊢; omega)))
  have HBL : Hid (Blk (W.alloc (.cells #[.int .i64 1, .bool false, .int .i64 0, .string ⟨([] : Nm).toArray⟩, .slice a m c, .slice ka k kc] 26)) W.heap.size #[.int .i64 1, .bool false, .int .i64 0, .string ⟨([] : Nm).toArray⟩, .slice a m c, .slice ka k kc] 26) := Lib.hid (Blk.new rfl)
  have Hb1 := Lib.hid hb1
  clear ih h hw hsz hkx hkl hml hfe hh hb1 hk hm
  go_enter Tryz.func25, Tryz.ntmps25
  go_upto_region 1 with (fail)
  obtain ⟨w1, hw1⟩ : ∃ w1, w1 = W.alloc (.cells #[.int .i64 1, .bool false, .int .i64 0, .string ⟨([] : Nm).toArray⟩, .slice a m c, .slice ka k kc] 26) := ⟨_, rfl⟩
  rw [← hw1] at HRT HBL Hb1 ⊢
  clear hw1
  obtain ⟨c0, c1, c2, c3, c4, c5⟩ := HBL.out.sixT
  go_wp2_with fail
  refine HRT.out.mono ?_
  clear HRT
  rintro e w2 ⟨rfl, hb2⟩
  have HB2 := Lib.hid (Hb1.out.trans (hb2.mono Hb1.out.size))
  have HBL2 := Lib.hid (HBL.out.ext hb2)
  obtain ⟨b0, hb0⟩ : ∃ b0, b0 = Lib.validD ([] : Nm) := ⟨_, rfl⟩
  have HZ0 := Lib.hid hb0
  rw [← hb0]
  clear hb2 hb0 c0 c1 c2 c3 c4 c5
  obtain ⟨c0, c1, c2, c3, c4, c5⟩ := HBL2.out.sixT
  go_wp2_with fail
  clear c0 c1 c2 c3 c4 c5
  go_loopw [3, 4, 5, 6] (fun r i _ _ wr => ∃ (q : Nat) (rq : Bool), q ≤ k ∧ i = .int .i64 q ∧ r = .bool rq ∧ Hid (rq = (b0 && distinct (keys.take q))) ∧ Hid (Below w2.heap.size w2 wr)) (fun _ i _ _ _ => k - (intOf i).toNat)
  case atStart => exact ⟨0, b0, Nat.zero_le _, rfl, rfl, Lib.hid (by simp [distinct]), Lib.hid (Below.refl _ _)⟩
  case round =>
    obtain ⟨q, rq, hq, rfl, rfl, HRQ, hb⟩ := hrel
    obtain ⟨c0, c1, c2, c3, c4, c5⟩ := (HBL2.out.ext hb.out).sixT
    by_cases hlt : q < k
    · exact absurd hlt (by omega)
    · obtain rfl : q = k := by omega
      have HRK : Hid (rq = (b0 && distinct keys)) := Lib.hid (by rw [HRQ.out, List.take_of_length_le (by have := HKL.out; omega)])
      have HB3 := Lib.hid (HB2.out.trans (hb.out.mono HB2.out.size))
      have HBL3 := Lib.hid (HBL2.out.ext hb.out)
      clear HRQ hb
      go_wp2_with fail
      clear c0 c1 c2 c3 c4 c5
      go_loopw [3, 7, 8] (fun r i _ wr' => ∃ (p : Nat) (r2 : Bool), p ≤ m ∧ i = .int .i64 p ∧ r = .bool r2 ∧ Hid (r2 = (rq && formeds ((ks.take p).map VD.v))) ∧ Hid (Below wr.heap.size wr wr')) (fun _ i _ _ => m - (intOf i).toNat)
      case atStart => exact ⟨0, rq, Nat.zero_le _, rfl, rfl, Lib.hid (by simp [formeds]), Lib.hid (Below.refl _ _)⟩
      case round =>
        obtain ⟨p, r2, hp, rfl, rfl, HR2, hb⟩ := hrel
        obtain ⟨c0, c1, c2, c3, c4, c5⟩ := (HBL3.out.ext hb.out).sixT
        by_cases hlt2 : p < m
        · exact absurd hlt2 (by omega)
        · obtain rfl : p = m := by omega
          have HF : Hid (r2 = R) := Lib.hid (by rw [HR2.out, HRK.out, HZ0.out, HRR.out, List.take_of_length_le (by have := HML.out; omega)])
          go_wp2
          go_ret
          exact ⟨by rw [← HF.out]; rfl, HB3.out.trans (hb.out.mono HB3.out.size)⟩

set_option maxHeartbeats 16000000 in
set_option maxRecDepth 20000 in
theorem frmR_3 (n : Int) (a : Option Addr) (c : Nat) (ks : List VD) (ka : Option Addr) (kc : Nat) (keys : List Nm) (W : World) (h : ValAt W (fun _ => True) (.mk 2 false n [] a c ks ka kc keys)) (hw : sizeV (VD.mk 2 false n [] a c ks ka kc keys).v ≤ 1048576) (hh : headF 2 false n ([] : Nm) ks.length keys.length = true) (ih : ∀ x ∈ ks, FrmAt x) (hk0 : ¬ ((0 : Int) < (keys.length : Int))) (hm0 : ¬ ((0 : Int) < (ks.length : Int))) (hn : (n != 0) = true) (hn1 : -9007199254740992 ≤ n) (hn2 : n ≤ 9007199254740992) :
    Calls Tryz.prog 25 #[(VD.mk 2 false n [] a c ks ka kc keys).val] W (BoE W (formed (VD.mk 2 false n [] a c ks ka kc keys).v)) := by
  have hfe : formed (VD.mk 2 false n [] a c ks ka kc keys).v = (headF 2 false n ([] : Nm) ks.length keys.length && Lib.validD ([] : Nm) && distinct keys && formeds (ks.map VD.v)) := by
    rw [VD.v_eq, formed, headF_ok, List.length_map]; rfl
  obtain ⟨R, hR⟩ : ∃ R : Bool, R = formed (VD.mk 2 false n [] a c ks ka kc keys).v := ⟨_, rfl⟩
  rw [← hR] at hfe ⊢
  clear hR
  have hb1 := below_a1 W (.cells #[.int .i64 2, .bool false, .int .i64 n, .string ⟨([] : Nm).toArray⟩, .slice a ks.length c, .slice ka keys.length kc] 26)
  have hsz := sizeV_eq (.mk 2 false n ([] : Nm) a c ks ka kc keys)
  simp only [VD.text, VD.keys, VD.list] at hsz
  rw [hsz] at hw
  have hkx : ∀ x ∈ keys, x.length ≤ 1048576 := fun x hx => by
    obtain ⟨i, hi⟩ := List.getElem?_of_mem hx
    have h1 := keysN_take hi
    have h2 := keysN_le keys (i + 1)
    omega
  have hkl := keysN_len keys
  have HKX := Lib.hid hkx
  have HR := Lib.hid h.row
  have HKR := Lib.hid h.krow
  simp only [VD.keys, VD.list, VD.ka, VD.a] at HR HKR
  have HKID : Hid (∀ x ∈ ks, ValAt W (fun _ => True) x) := Lib.hid h.kid
  have HI : Hid (∀ x ∈ ks, ∀ V, ValAt V (fun _ => True) x → Calls Tryz.prog 25 #[x.val] V (BoE V (formed x.v))) := Lib.hid fun x hx V hV => ih x hx V hV (by
    have h1 := sizesV_mem (l := ks.map VD.v) (List.mem_map_of_mem hx)
    omega)
  have hml : ks.length ≤ sizesV (ks.map VD.v) := by have := sizesV_len (ks.map VD.v); simpa using this
  obtain ⟨k, hk⟩ : ∃ k, k = keys.length := ⟨_, rfl⟩
  obtain ⟨m, hm⟩ : ∃ m, m = ks.length := ⟨_, rfl⟩
  have HKL := Lib.hid hk
  rw [← hk] at hk0
  rw [← hm] at hm0
  have HML := Lib.hid hm
  have HRR : Hid (R = (Lib.validD ([] : Nm) && distinct keys && formeds (ks.map VD.v))) := Lib.hid (by rw [hfe, hh, Bool.true_and])
  have hkb : k ≤ 1048576 := by omega
  have hmb : m ≤ 1048576 := by omega
  simp only [VD.val, VD.cells, strV]
  rw [← hk, ← hm]
  clear hb1
  have hb1 := below_a1 W (.cells #[.int .i64 2, .bool false, .int .i64 n, .string ⟨([] : Nm).toArray⟩, .slice a m c, .slice ka k kc] 26)
  have HRT := Lib.hid (ref_right_any ([] : Nm) (W.alloc (.cells #[.int .i64 2, .bool false, .int .i64 n, .string ⟨([] : Nm).toArray⟩, .slice a m c, .slice ka k kc] 26)) (by first | (simp; done) | (simp only [List.length_cons] at hw ⊢; omega)))
  have HBL : Hid (Blk (W.alloc (.cells #[.int .i64 2, .bool false, .int .i64 n, .string ⟨([] : Nm).toArray⟩, .slice a m c, .slice ka k kc] 26)) W.heap.size #[.int .i64 2, .bool false, .int .i64 n, .string ⟨([] : Nm).toArray⟩, .slice a m c, .slice ka k kc] 26) := Lib.hid (Blk.new rfl)
  have Hb1 := Lib.hid hb1
  clear ih h hw hsz hkx hkl hml hfe hh hb1 hk hm
  go_enter Tryz.func25, Tryz.ntmps25
  go_upto_region 1 with (fail)
  obtain ⟨w1, hw1⟩ : ∃ w1, w1 = W.alloc (.cells #[.int .i64 2, .bool false, .int .i64 n, .string ⟨([] : Nm).toArray⟩, .slice a m c, .slice ka k kc] 26) := ⟨_, rfl⟩
  rw [← hw1] at HRT HBL Hb1 ⊢
  clear hw1
  obtain ⟨c0, c1, c2, c3, c4, c5⟩ := HBL.out.sixT
  go_wp2_with fail
  refine HRT.out.mono ?_
  clear HRT
  rintro e w2 ⟨rfl, hb2⟩
  have HB2 := Lib.hid (Hb1.out.trans (hb2.mono Hb1.out.size))
  have HBL2 := Lib.hid (HBL.out.ext hb2)
  obtain ⟨b0, hb0⟩ : ∃ b0, b0 = Lib.validD ([] : Nm) := ⟨_, rfl⟩
  have HZ0 := Lib.hid hb0
  rw [← hb0]
  clear hb2 hb0 c0 c1 c2 c3 c4 c5
  obtain ⟨c0, c1, c2, c3, c4, c5⟩ := HBL2.out.sixT
  go_wp2_with fail
  clear c0 c1 c2 c3 c4 c5
  go_loopw [3, 4, 5, 6] (fun r i _ _ wr => ∃ (q : Nat) (rq : Bool), q ≤ k ∧ i = .int .i64 q ∧ r = .bool rq ∧ Hid (rq = (b0 && distinct (keys.take q))) ∧ Hid (Below w2.heap.size w2 wr)) (fun _ i _ _ _ => k - (intOf i).toNat)
  case atStart => exact ⟨0, b0, Nat.zero_le _, rfl, rfl, Lib.hid (by simp [distinct]), Lib.hid (Below.refl _ _)⟩
  case round =>
    obtain ⟨q, rq, hq, rfl, rfl, HRQ, hb⟩ := hrel
    obtain ⟨c0, c1, c2, c3, c4, c5⟩ := (HBL2.out.ext hb.out).sixT
    by_cases hlt : q < k
    · exact absurd hlt (by omega)
    · obtain rfl : q = k := by omega
      have HRK : Hid (rq = (b0 && distinct keys)) := Lib.hid (by rw [HRQ.out, List.take_of_length_le (by have := HKL.out; omega)])
      have HB3 := Lib.hid (HB2.out.trans (hb.out.mono HB2.out.size))
      have HBL3 := Lib.hid (HBL2.out.ext hb.out)
      clear HRQ hb
      go_wp2_with fail
      clear c0 c1 c2 c3 c4 c5
      go_loopw [3, 7, 8] (fun r i _ wr' => ∃ (p : Nat) (r2 : Bool), p ≤ m ∧ i = .int .i64 p ∧ r = .bool r2 ∧ Hid (r2 = (rq && formeds ((ks.take p).map VD.v))) ∧ Hid (Below wr.heap.size wr wr')) (fun _ i _ _ => m - (intOf i).toNat)
      case atStart => exact ⟨0, rq, Nat.zero_le _, rfl, rfl, Lib.hid (by simp [formeds]), Lib.hid (Below.refl _ _)⟩
      case round =>
        obtain ⟨p, r2, hp, rfl, rfl, HR2, hb⟩ := hrel
        obtain ⟨c0, c1, c2, c3, c4, c5⟩ := (HBL3.out.ext hb.out).sixT
        by_cases hlt2 : p < m
        · exact absurd hlt2 (by omega)
        · obtain rfl : p = m := by omega
          have HF : Hid (r2 = R) := Lib.hid (by rw [HR2.out, HRK.out, HZ0.out, HRR.out, List.take_of_length_le (by have := HML.out; omega)])
          go_wp2
          go_ret
          exact ⟨by rw [← HF.out]; rfl, HB3.out.trans (hb.out.mono HB3.out.size)⟩

set_option maxHeartbeats 16000000 in
set_option maxRecDepth 20000 in
theorem frmR_4 (a : Option Addr) (c : Nat) (ks : List VD) (ka : Option Addr) (kc : Nat) (keys : List Nm) (W : World) (h : ValAt W (fun _ => True) (.mk 2 false 0 [] a c ks ka kc keys)) (hw : sizeV (VD.mk 2 false 0 [] a c ks ka kc keys).v ≤ 1048576) (hh : headF 2 false 0 ([] : Nm) ks.length keys.length = true) (ih : ∀ x ∈ ks, FrmAt x) (hk0 : ¬ ((0 : Int) < (keys.length : Int))) (hm0 : ¬ ((0 : Int) < (ks.length : Int))) :
    Calls Tryz.prog 25 #[(VD.mk 2 false 0 [] a c ks ka kc keys).val] W (BoE W (formed (VD.mk 2 false 0 [] a c ks ka kc keys).v)) := by
  have hfe : formed (VD.mk 2 false 0 [] a c ks ka kc keys).v = (headF 2 false 0 ([] : Nm) ks.length keys.length && Lib.validD ([] : Nm) && distinct keys && formeds (ks.map VD.v)) := by
    rw [VD.v_eq, formed, headF_ok, List.length_map]; rfl
  obtain ⟨R, hR⟩ : ∃ R : Bool, R = formed (VD.mk 2 false 0 [] a c ks ka kc keys).v := ⟨_, rfl⟩
  rw [← hR] at hfe ⊢
  clear hR
  have hb1 := below_a1 W (.cells #[.int .i64 2, .bool false, .int .i64 0, .string ⟨([] : Nm).toArray⟩, .slice a ks.length c, .slice ka keys.length kc] 26)
  have hsz := sizeV_eq (.mk 2 false 0 ([] : Nm) a c ks ka kc keys)
  simp only [VD.text, VD.keys, VD.list] at hsz
  rw [hsz] at hw
  have hkx : ∀ x ∈ keys, x.length ≤ 1048576 := fun x hx => by
    obtain ⟨i, hi⟩ := List.getElem?_of_mem hx
    have h1 := keysN_take hi
    have h2 := keysN_le keys (i + 1)
    omega
  have hkl := keysN_len keys
  have HKX := Lib.hid hkx
  have HR := Lib.hid h.row
  have HKR := Lib.hid h.krow
  simp only [VD.keys, VD.list, VD.ka, VD.a] at HR HKR
  have HKID : Hid (∀ x ∈ ks, ValAt W (fun _ => True) x) := Lib.hid h.kid
  have HI : Hid (∀ x ∈ ks, ∀ V, ValAt V (fun _ => True) x → Calls Tryz.prog 25 #[x.val] V (BoE V (formed x.v))) := Lib.hid fun x hx V hV => ih x hx V hV (by
    have h1 := sizesV_mem (l := ks.map VD.v) (List.mem_map_of_mem hx)
    omega)
  have hml : ks.length ≤ sizesV (ks.map VD.v) := by have := sizesV_len (ks.map VD.v); simpa using this
  obtain ⟨k, hk⟩ : ∃ k, k = keys.length := ⟨_, rfl⟩
  obtain ⟨m, hm⟩ : ∃ m, m = ks.length := ⟨_, rfl⟩
  have HKL := Lib.hid hk
  rw [← hk] at hk0
  rw [← hm] at hm0
  have HML := Lib.hid hm
  have HRR : Hid (R = (Lib.validD ([] : Nm) && distinct keys && formeds (ks.map VD.v))) := Lib.hid (by rw [hfe, hh, Bool.true_and])
  have hkb : k ≤ 1048576 := by omega
  have hmb : m ≤ 1048576 := by omega
  simp only [VD.val, VD.cells, strV]
  rw [← hk, ← hm]
  clear hb1
  have hb1 := below_a1 W (.cells #[.int .i64 2, .bool false, .int .i64 0, .string ⟨([] : Nm).toArray⟩, .slice a m c, .slice ka k kc] 26)
  have HRT := Lib.hid (ref_right_any ([] : Nm) (W.alloc (.cells #[.int .i64 2, .bool false, .int .i64 0, .string ⟨([] : Nm).toArray⟩, .slice a m c, .slice ka k kc] 26)) (by first | (simp; done) | (simp only [List.length_cons] at hw ⊢; omega)))
  have HBL : Hid (Blk (W.alloc (.cells #[.int .i64 2, .bool false, .int .i64 0, .string ⟨([] : Nm).toArray⟩, .slice a m c, .slice ka k kc] 26)) W.heap.size #[.int .i64 2, .bool false, .int .i64 0, .string ⟨([] : Nm).toArray⟩, .slice a m c, .slice ka k kc] 26) := Lib.hid (Blk.new rfl)
  have Hb1 := Lib.hid hb1
  clear ih h hw hsz hkx hkl hml hfe hh hb1 hk hm
  go_enter Tryz.func25, Tryz.ntmps25
  go_upto_region 1 with (fail)
  obtain ⟨w1, hw1⟩ : ∃ w1, w1 = W.alloc (.cells #[.int .i64 2, .bool false, .int .i64 0, .string ⟨([] : Nm).toArray⟩, .slice a m c, .slice ka k kc] 26) := ⟨_, rfl⟩
  rw [← hw1] at HRT HBL Hb1 ⊢
  clear hw1
  obtain ⟨c0, c1, c2, c3, c4, c5⟩ := HBL.out.sixT
  go_wp2_with fail
  refine HRT.out.mono ?_
  clear HRT
  rintro e w2 ⟨rfl, hb2⟩
  have HB2 := Lib.hid (Hb1.out.trans (hb2.mono Hb1.out.size))
  have HBL2 := Lib.hid (HBL.out.ext hb2)
  obtain ⟨b0, hb0⟩ : ∃ b0, b0 = Lib.validD ([] : Nm) := ⟨_, rfl⟩
  have HZ0 := Lib.hid hb0
  rw [← hb0]
  clear hb2 hb0 c0 c1 c2 c3 c4 c5
  obtain ⟨c0, c1, c2, c3, c4, c5⟩ := HBL2.out.sixT
  go_wp2_with fail
  clear c0 c1 c2 c3 c4 c5
  go_loopw [3, 4, 5, 6] (fun r i _ _ wr => ∃ (q : Nat) (rq : Bool), q ≤ k ∧ i = .int .i64 q ∧ r = .bool rq ∧ Hid (rq = (b0 && distinct (keys.take q))) ∧ Hid (Below w2.heap.size w2 wr)) (fun _ i _ _ _ => k - (intOf i).toNat)
  case atStart => exact ⟨0, b0, Nat.zero_le _, rfl, rfl, Lib.hid (by simp [distinct]), Lib.hid (Below.refl _ _)⟩
  case round =>
    obtain ⟨q, rq, hq, rfl, rfl, HRQ, hb⟩ := hrel
    obtain ⟨c0, c1, c2, c3, c4, c5⟩ := (HBL2.out.ext hb.out).sixT
    by_cases hlt : q < k
    · exact absurd hlt (by omega)
    · obtain rfl : q = k := by omega
      have HRK : Hid (rq = (b0 && distinct keys)) := Lib.hid (by rw [HRQ.out, List.take_of_length_le (by have := HKL.out; omega)])
      have HB3 := Lib.hid (HB2.out.trans (hb.out.mono HB2.out.size))
      have HBL3 := Lib.hid (HBL2.out.ext hb.out)
      clear HRQ hb
      go_wp2_with fail
      clear c0 c1 c2 c3 c4 c5
      go_loopw [3, 7, 8] (fun r i _ wr' => ∃ (p : Nat) (r2 : Bool), p ≤ m ∧ i = .int .i64 p ∧ r = .bool r2 ∧ Hid (r2 = (rq && formeds ((ks.take p).map VD.v))) ∧ Hid (Below wr.heap.size wr wr')) (fun _ i _ _ => m - (intOf i).toNat)
      case atStart => exact ⟨0, rq, Nat.zero_le _, rfl, rfl, Lib.hid (by simp [formeds]), Lib.hid (Below.refl _ _)⟩
      case round =>
        obtain ⟨p, r2, hp, rfl, rfl, HR2, hb⟩ := hrel
        obtain ⟨c0, c1, c2, c3, c4, c5⟩ := (HBL3.out.ext hb.out).sixT
        by_cases hlt2 : p < m
        · exact absurd hlt2 (by omega)
        · obtain rfl : p = m := by omega
          have HF : Hid (r2 = R) := Lib.hid (by rw [HR2.out, HRK.out, HZ0.out, HRR.out, List.take_of_length_le (by have := HML.out; omega)])
          go_wp2
          go_ret
          exact ⟨by rw [← HF.out]; rfl, HB3.out.trans (hb.out.mono HB3.out.size)⟩

set_option maxHeartbeats 16000000 in
set_option maxRecDepth 20000 in
theorem frmR_5 (a : Option Addr) (c : Nat) (ks : List VD) (ka : Option Addr) (kc : Nat) (keys : List Nm) (W : World) (h : ValAt W (fun _ => True) (.mk 3 false 0 [] a c ks ka kc keys)) (hw : sizeV (VD.mk 3 false 0 [] a c ks ka kc keys).v ≤ 1048576) (hh : headF 3 false 0 ([] : Nm) ks.length keys.length = true) (ih : ∀ x ∈ ks, FrmAt x) (hk0 : ¬ ((0 : Int) < (keys.length : Int))) (hm0 : ¬ ((0 : Int) < (ks.length : Int))) :
    Calls Tryz.prog 25 #[(VD.mk 3 false 0 [] a c ks ka kc keys).val] W (BoE W (formed (VD.mk 3 false 0 [] a c ks ka kc keys).v)) := by
  have hfe : formed (VD.mk 3 false 0 [] a c ks ka kc keys).v = (headF 3 false 0 ([] : Nm) ks.length keys.length && Lib.validD ([] : Nm) && distinct keys && formeds (ks.map VD.v)) := by
    rw [VD.v_eq, formed, headF_ok, List.length_map]; rfl
  obtain ⟨R, hR⟩ : ∃ R : Bool, R = formed (VD.mk 3 false 0 [] a c ks ka kc keys).v := ⟨_, rfl⟩
  rw [← hR] at hfe ⊢
  clear hR
  have hb1 := below_a1 W (.cells #[.int .i64 3, .bool false, .int .i64 0, .string ⟨([] : Nm).toArray⟩, .slice a ks.length c, .slice ka keys.length kc] 26)
  have hsz := sizeV_eq (.mk 3 false 0 ([] : Nm) a c ks ka kc keys)
  simp only [VD.text, VD.keys, VD.list] at hsz
  rw [hsz] at hw
  have hkx : ∀ x ∈ keys, x.length ≤ 1048576 := fun x hx => by
    obtain ⟨i, hi⟩ := List.getElem?_of_mem hx
    have h1 := keysN_take hi
    have h2 := keysN_le keys (i + 1)
    omega
  have hkl := keysN_len keys
  have HKX := Lib.hid hkx
  have HR := Lib.hid h.row
  have HKR := Lib.hid h.krow
  simp only [VD.keys, VD.list, VD.ka, VD.a] at HR HKR
  have HKID : Hid (∀ x ∈ ks, ValAt W (fun _ => True) x) := Lib.hid h.kid
  have HI : Hid (∀ x ∈ ks, ∀ V, ValAt V (fun _ => True) x → Calls Tryz.prog 25 #[x.val] V (BoE V (formed x.v))) := Lib.hid fun x hx V hV => ih x hx V hV (by
    have h1 := sizesV_mem (l := ks.map VD.v) (List.mem_map_of_mem hx)
    omega)
  have hml : ks.length ≤ sizesV (ks.map VD.v) := by have := sizesV_len (ks.map VD.v); simpa using this
  obtain ⟨k, hk⟩ : ∃ k, k = keys.length := ⟨_, rfl⟩
  obtain ⟨m, hm⟩ : ∃ m, m = ks.length := ⟨_, rfl⟩
  have HKL := Lib.hid hk
  rw [← hk] at hk0
  rw [← hm] at hm0
  have HML := Lib.hid hm
  have HRR : Hid (R = (Lib.validD ([] : Nm) && distinct keys && formeds (ks.map VD.v))) := Lib.hid (by rw [hfe, hh, Bool.true_and])
  have hkb : k ≤ 1048576 := by omega
  have hmb : m ≤ 1048576 := by omega
  simp only [VD.val, VD.cells, strV]
  rw [← hk, ← hm]
  clear hb1
  have hb1 := below_a1 W (.cells #[.int .i64 3, .bool false, .int .i64 0, .string ⟨([] : Nm).toArray⟩, .slice a m c, .slice ka k kc] 26)
  have HRT := Lib.hid (ref_right_any ([] : Nm) (W.alloc (.cells #[.int .i64 3, .bool false, .int .i64 0, .string ⟨([] : Nm).toArray⟩, .slice a m c, .slice ka k kc] 26)) (by first | (simp; done) | (simp only [List.length_cons] at hw ⊢; omega)))
  have HBL : Hid (Blk (W.alloc (.cells #[.int .i64 3, .bool false, .int .i64 0, .string ⟨([] : Nm).toArray⟩, .slice a m c, .slice ka k kc] 26)) W.heap.size #[.int .i64 3, .bool false, .int .i64 0, .string ⟨([] : Nm).toArray⟩, .slice a m c, .slice ka k kc] 26) := Lib.hid (Blk.new rfl)
  have Hb1 := Lib.hid hb1
  clear ih h hw hsz hkx hkl hml hfe hh hb1 hk hm
  go_enter Tryz.func25, Tryz.ntmps25
  go_upto_region 1 with (fail)
  obtain ⟨w1, hw1⟩ : ∃ w1, w1 = W.alloc (.cells #[.int .i64 3, .bool false, .int .i64 0, .string ⟨([] : Nm).toArray⟩, .slice a m c, .slice ka k kc] 26) := ⟨_, rfl⟩
  rw [← hw1] at HRT HBL Hb1 ⊢
  clear hw1
  obtain ⟨c0, c1, c2, c3, c4, c5⟩ := HBL.out.sixT
  go_wp2_with fail
  refine HRT.out.mono ?_
  clear HRT
  rintro e w2 ⟨rfl, hb2⟩
  have HB2 := Lib.hid (Hb1.out.trans (hb2.mono Hb1.out.size))
  have HBL2 := Lib.hid (HBL.out.ext hb2)
  obtain ⟨b0, hb0⟩ : ∃ b0, b0 = Lib.validD ([] : Nm) := ⟨_, rfl⟩
  have HZ0 := Lib.hid hb0
  rw [← hb0]
  clear hb2 hb0 c0 c1 c2 c3 c4 c5
  obtain ⟨c0, c1, c2, c3, c4, c5⟩ := HBL2.out.sixT
  go_wp2_with fail
  clear c0 c1 c2 c3 c4 c5
  go_loopw [3, 4, 5, 6] (fun r i _ _ wr => ∃ (q : Nat) (rq : Bool), q ≤ k ∧ i = .int .i64 q ∧ r = .bool rq ∧ Hid (rq = (b0 && distinct (keys.take q))) ∧ Hid (Below w2.heap.size w2 wr)) (fun _ i _ _ _ => k - (intOf i).toNat)
  case atStart => exact ⟨0, b0, Nat.zero_le _, rfl, rfl, Lib.hid (by simp [distinct]), Lib.hid (Below.refl _ _)⟩
  case round =>
    obtain ⟨q, rq, hq, rfl, rfl, HRQ, hb⟩ := hrel
    obtain ⟨c0, c1, c2, c3, c4, c5⟩ := (HBL2.out.ext hb.out).sixT
    by_cases hlt : q < k
    · exact absurd hlt (by omega)
    · obtain rfl : q = k := by omega
      have HRK : Hid (rq = (b0 && distinct keys)) := Lib.hid (by rw [HRQ.out, List.take_of_length_le (by have := HKL.out; omega)])
      have HB3 := Lib.hid (HB2.out.trans (hb.out.mono HB2.out.size))
      have HBL3 := Lib.hid (HBL2.out.ext hb.out)
      clear HRQ hb
      go_wp2_with fail
      clear c0 c1 c2 c3 c4 c5
      go_loopw [3, 7, 8] (fun r i _ wr' => ∃ (p : Nat) (r2 : Bool), p ≤ m ∧ i = .int .i64 p ∧ r = .bool r2 ∧ Hid (r2 = (rq && formeds ((ks.take p).map VD.v))) ∧ Hid (Below wr.heap.size wr wr')) (fun _ i _ _ => m - (intOf i).toNat)
      case atStart => exact ⟨0, rq, Nat.zero_le _, rfl, rfl, Lib.hid (by simp [formeds]), Lib.hid (Below.refl _ _)⟩
      case round =>
        obtain ⟨p, r2, hp, rfl, rfl, HR2, hb⟩ := hrel
        obtain ⟨c0, c1, c2, c3, c4, c5⟩ := (HBL3.out.ext hb.out).sixT
        by_cases hlt2 : p < m
        · exact absurd hlt2 (by omega)
        · obtain rfl : p = m := by omega
          have HF : Hid (r2 = R) := Lib.hid (by rw [HR2.out, HRK.out, HZ0.out, HRR.out, List.take_of_length_le (by have := HML.out; omega)])
          go_wp2
          go_ret
          exact ⟨by rw [← HF.out]; rfl, HB3.out.trans (hb.out.mono HB3.out.size)⟩

set_option maxHeartbeats 16000000 in
set_option maxRecDepth 20000 in
theorem frmR_6 (u : UInt8) (t : Nm) (a : Option Addr) (c : Nat) (ks : List VD) (ka : Option Addr) (kc : Nat) (keys : List Nm) (W : World) (h : ValAt W (fun _ => True) (.mk 3 false 0 (u :: t) a c ks ka kc keys)) (hw : sizeV (VD.mk 3 false 0 (u :: t) a c ks ka kc keys).v ≤ 1048576) (hh : headF 3 false 0 (u :: t) ks.length keys.length = true) (ih : ∀ x ∈ ks, FrmAt x) (hk0 : ¬ ((0 : Int) < (keys.length : Int))) (hm0 : ¬ ((0 : Int) < (ks.length : Int))) :
    Calls Tryz.prog 25 #[(VD.mk 3 false 0 (u :: t) a c ks ka kc keys).val] W (BoE W (formed (VD.mk 3 false 0 (u :: t) a c ks ka kc keys).v)) := by
  have hfe : formed (VD.mk 3 false 0 (u :: t) a c ks ka kc keys).v = (headF 3 false 0 (u :: t) ks.length keys.length && Lib.validD (u :: t) && distinct keys && formeds (ks.map VD.v)) := by
    rw [VD.v_eq, formed, headF_ok, List.length_map]; rfl
  obtain ⟨R, hR⟩ : ∃ R : Bool, R = formed (VD.mk 3 false 0 (u :: t) a c ks ka kc keys).v := ⟨_, rfl⟩
  rw [← hR] at hfe ⊢
  clear hR
  have hb1 := below_a1 W (.cells #[.int .i64 3, .bool false, .int .i64 0, .string ⟨(u :: t).toArray⟩, .slice a ks.length c, .slice ka keys.length kc] 26)
  have hsz := sizeV_eq (.mk 3 false 0 (u :: t) a c ks ka kc keys)
  simp only [VD.text, VD.keys, VD.list] at hsz
  rw [hsz] at hw
  have hkx : ∀ x ∈ keys, x.length ≤ 1048576 := fun x hx => by
    obtain ⟨i, hi⟩ := List.getElem?_of_mem hx
    have h1 := keysN_take hi
    have h2 := keysN_le keys (i + 1)
    omega
  have hkl := keysN_len keys
  have HKX := Lib.hid hkx
  have HR := Lib.hid h.row
  have HKR := Lib.hid h.krow
  simp only [VD.keys, VD.list, VD.ka, VD.a] at HR HKR
  have HKID : Hid (∀ x ∈ ks, ValAt W (fun _ => True) x) := Lib.hid h.kid
  have HI : Hid (∀ x ∈ ks, ∀ V, ValAt V (fun _ => True) x → Calls Tryz.prog 25 #[x.val] V (BoE V (formed x.v))) := Lib.hid fun x hx V hV => ih x hx V hV (by
    have h1 := sizesV_mem (l := ks.map VD.v) (List.mem_map_of_mem hx)
    omega)
  have hml : ks.length ≤ sizesV (ks.map VD.v) := by have := sizesV_len (ks.map VD.v); simpa using this
  obtain ⟨k, hk⟩ : ∃ k, k = keys.length := ⟨_, rfl⟩
  obtain ⟨m, hm⟩ : ∃ m, m = ks.length := ⟨_, rfl⟩
  have HKL := Lib.hid hk
  rw [← hk] at hk0
  rw [← hm] at hm0
  have HML := Lib.hid hm
  have HRR : Hid (R = (Lib.validD (u :: t) && distinct keys && formeds (ks.map VD.v))) := Lib.hid (by rw [hfe, hh, Bool.true_and])
  have hkb : k ≤ 1048576 := by omega
  have hmb : m ≤ 1048576 := by omega
  simp only [VD.val, VD.cells, strV]
  rw [← hk, ← hm]
  clear hb1
  have hb1 := below_a1 W (.cells #[.int .i64 3, .bool false, .int .i64 0, .string ⟨(u :: t).toArray⟩, .slice a m c, .slice ka k kc] 26)
  have HRT := Lib.hid (ref_right_any (u :: t) (W.alloc (.cells #[.int .i64 3, .bool false, .int .i64 0, .string ⟨(u :: t).toArray⟩, .slice a m c, .slice ka k kc] 26)) (by first | (simp; done) | (simp only [List.length_cons] at hw ⊢; omega)))
  have HBL : Hid (Blk (W.alloc (.cells #[.int .i64 3, .bool false, .int .i64 0, .string ⟨(u :: t).toArray⟩, .slice a m c, .slice ka k kc] 26)) W.heap.size #[.int .i64 3, .bool false, .int .i64 0, .string ⟨(u :: t).toArray⟩, .slice a m c, .slice ka k kc] 26) := Lib.hid (Blk.new rfl)
  have Hb1 := Lib.hid hb1
  clear ih h hw hsz hkx hkl hml hfe hh hb1 hk hm
  go_enter Tryz.func25, Tryz.ntmps25
  go_upto_region 1 with (fail)
  obtain ⟨w1, hw1⟩ : ∃ w1, w1 = W.alloc (.cells #[.int .i64 3, .bool false, .int .i64 0, .string ⟨(u :: t).toArray⟩, .slice a m c, .slice ka k kc] 26) := ⟨_, rfl⟩
  rw [← hw1] at HRT HBL Hb1 ⊢
  clear hw1
  obtain ⟨c0, c1, c2, c3, c4, c5⟩ := HBL.out.sixT
  go_wp2_with fail
  refine HRT.out.mono ?_
  clear HRT
  rintro e w2 ⟨rfl, hb2⟩
  have HB2 := Lib.hid (Hb1.out.trans (hb2.mono Hb1.out.size))
  have HBL2 := Lib.hid (HBL.out.ext hb2)
  obtain ⟨b0, hb0⟩ : ∃ b0, b0 = Lib.validD (u :: t) := ⟨_, rfl⟩
  have HZ0 := Lib.hid hb0
  rw [← hb0]
  clear hb2 hb0 c0 c1 c2 c3 c4 c5
  obtain ⟨c0, c1, c2, c3, c4, c5⟩ := HBL2.out.sixT
  go_wp2_with fail
  clear c0 c1 c2 c3 c4 c5
  go_loopw [3, 4, 5, 6] (fun r i _ _ wr => ∃ (q : Nat) (rq : Bool), q ≤ k ∧ i = .int .i64 q ∧ r = .bool rq ∧ Hid (rq = (b0 && distinct (keys.take q))) ∧ Hid (Below w2.heap.size w2 wr)) (fun _ i _ _ _ => k - (intOf i).toNat)
  case atStart => exact ⟨0, b0, Nat.zero_le _, rfl, rfl, Lib.hid (by simp [distinct]), Lib.hid (Below.refl _ _)⟩
  case round =>
    obtain ⟨q, rq, hq, rfl, rfl, HRQ, hb⟩ := hrel
    obtain ⟨c0, c1, c2, c3, c4, c5⟩ := (HBL2.out.ext hb.out).sixT
    by_cases hlt : q < k
    · exact absurd hlt (by omega)
    · obtain rfl : q = k := by omega
      have HRK : Hid (rq = (b0 && distinct keys)) := Lib.hid (by rw [HRQ.out, List.take_of_length_le (by have := HKL.out; omega)])
      have HB3 := Lib.hid (HB2.out.trans (hb.out.mono HB2.out.size))
      have HBL3 := Lib.hid (HBL2.out.ext hb.out)
      clear HRQ hb
      go_wp2_with fail
      clear c0 c1 c2 c3 c4 c5
      go_loopw [3, 7, 8] (fun r i _ wr' => ∃ (p : Nat) (r2 : Bool), p ≤ m ∧ i = .int .i64 p ∧ r = .bool r2 ∧ Hid (r2 = (rq && formeds ((ks.take p).map VD.v))) ∧ Hid (Below wr.heap.size wr wr')) (fun _ i _ _ => m - (intOf i).toNat)
      case atStart => exact ⟨0, rq, Nat.zero_le _, rfl, rfl, Lib.hid (by simp [formeds]), Lib.hid (Below.refl _ _)⟩
      case round =>
        obtain ⟨p, r2, hp, rfl, rfl, HR2, hb⟩ := hrel
        obtain ⟨c0, c1, c2, c3, c4, c5⟩ := (HBL3.out.ext hb.out).sixT
        by_cases hlt2 : p < m
        · exact absurd hlt2 (by omega)
        · obtain rfl : p = m := by omega
          have HF : Hid (r2 = R) := Lib.hid (by rw [HR2.out, HRK.out, HZ0.out, HRR.out, List.take_of_length_le (by have := HML.out; omega)])
          go_wp2
          go_ret
          exact ⟨by rw [← HF.out]; rfl, HB3.out.trans (hb.out.mono HB3.out.size)⟩

set_option maxHeartbeats 16000000 in
set_option maxRecDepth 20000 in
theorem frmR_7 (a : Option Addr) (c : Nat) (ks : List VD) (ka : Option Addr) (kc : Nat) (keys : List Nm) (W : World) (h : ValAt W (fun _ => True) (.mk 4 false 0 [] a c ks ka kc keys)) (hw : sizeV (VD.mk 4 false 0 [] a c ks ka kc keys).v ≤ 1048576) (hh : headF 4 false 0 ([] : Nm) ks.length keys.length = true) (ih : ∀ x ∈ ks, FrmAt x) (hk0 : ¬ ((0 : Int) < (keys.length : Int))) (hm0 : ¬ ((0 : Int) < (ks.length : Int))) :
    Calls Tryz.prog 25 #[(VD.mk 4 false 0 [] a c ks ka kc keys).val] W (BoE W (formed (VD.mk 4 false 0 [] a c ks ka kc keys).v)) := by
  have hfe : formed (VD.mk 4 false 0 [] a c ks ka kc keys).v = (headF 4 false 0 ([] : Nm) ks.length keys.length && Lib.validD ([] : Nm) && distinct keys && formeds (ks.map VD.v)) := by
    rw [VD.v_eq, formed, headF_ok, List.length_map]; rfl
  obtain ⟨R, hR⟩ : ∃ R : Bool, R = formed (VD.mk 4 false 0 [] a c ks ka kc keys).v := ⟨_, rfl⟩
  rw [← hR] at hfe ⊢
  clear hR
  have hb1 := below_a1 W (.cells #[.int .i64 4, .bool false, .int .i64 0, .string ⟨([] : Nm).toArray⟩, .slice a ks.length c, .slice ka keys.length kc] 26)
  have hsz := sizeV_eq (.mk 4 false 0 ([] : Nm) a c ks ka kc keys)
  simp only [VD.text, VD.keys, VD.list] at hsz
  rw [hsz] at hw
  have hkx : ∀ x ∈ keys, x.length ≤ 1048576 := fun x hx => by
    obtain ⟨i, hi⟩ := List.getElem?_of_mem hx
    have h1 := keysN_take hi
    have h2 := keysN_le keys (i + 1)
    omega
  have hkl := keysN_len keys
  have HKX := Lib.hid hkx
  have HR := Lib.hid h.row
  have HKR := Lib.hid h.krow
  simp only [VD.keys, VD.list, VD.ka, VD.a] at HR HKR
  have HKID : Hid (∀ x ∈ ks, ValAt W (fun _ => True) x) := Lib.hid h.kid
  have HI : Hid (∀ x ∈ ks, ∀ V, ValAt V (fun _ => True) x → Calls Tryz.prog 25 #[x.val] V (BoE V (formed x.v))) := Lib.hid fun x hx V hV => ih x hx V hV (by
    have h1 := sizesV_mem (l := ks.map VD.v) (List.mem_map_of_mem hx)
    omega)
  have hml : ks.length ≤ sizesV (ks.map VD.v) := by have := sizesV_len (ks.map VD.v); simpa using this
  obtain ⟨k, hk⟩ : ∃ k, k = keys.length := ⟨_, rfl⟩
  obtain ⟨m, hm⟩ : ∃ m, m = ks.length := ⟨_, rfl⟩
  have HKL := Lib.hid hk
  rw [← hk] at hk0
  rw [← hm] at hm0
  have HML := Lib.hid hm
  have HRR : Hid (R = (Lib.validD ([] : Nm) && distinct keys && formeds (ks.map VD.v))) := Lib.hid (by rw [hfe, hh, Bool.true_and])
  have hkb : k ≤ 1048576 := by omega
  have hmb : m ≤ 1048576 := by omega
  simp only [VD.val, VD.cells, strV]
  rw [← hk, ← hm]
  clear hb1
  have hb1 := below_a1 W (.cells #[.int .i64 4, .bool false, .int .i64 0, .string ⟨([] : Nm).toArray⟩, .slice a m c, .slice ka k kc] 26)
  have HRT := Lib.hid (ref_right_any ([] : Nm) (W.alloc (.cells #[.int .i64 4, .bool false, .int .i64 0, .string ⟨([] : Nm).toArray⟩, .slice a m c, .slice ka k kc] 26)) (by first | (simp; done) | (simp only [List.length_cons] at hw ⊢; omega)))
  have HBL : Hid (Blk (W.alloc (.cells #[.int .i64 4, .bool false, .int .i64 0, .string ⟨([] : Nm).toArray⟩, .slice a m c, .slice ka k kc] 26)) W.heap.size #[.int .i64 4, .bool false, .int .i64 0, .string ⟨([] : Nm).toArray⟩, .slice a m c, .slice ka k kc] 26) := Lib.hid (Blk.new rfl)
  have Hb1 := Lib.hid hb1
  clear ih h hw hsz hkx hkl hml hfe hh hb1 hk hm
  go_enter Tryz.func25, Tryz.ntmps25
  go_upto_region 1 with (fail)
  obtain ⟨w1, hw1⟩ : ∃ w1, w1 = W.alloc (.cells #[.int .i64 4, .bool false, .int .i64 0, .string ⟨([] : Nm).toArray⟩, .slice a m c, .slice ka k kc] 26) := ⟨_, rfl⟩
  rw [← hw1] at HRT HBL Hb1 ⊢
  clear hw1
  obtain ⟨c0, c1, c2, c3, c4, c5⟩ := HBL.out.sixT
  go_wp2_with fail
  refine HRT.out.mono ?_
  clear HRT
  rintro e w2 ⟨rfl, hb2⟩
  have HB2 := Lib.hid (Hb1.out.trans (hb2.mono Hb1.out.size))
  have HBL2 := Lib.hid (HBL.out.ext hb2)
  obtain ⟨b0, hb0⟩ : ∃ b0, b0 = Lib.validD ([] : Nm) := ⟨_, rfl⟩
  have HZ0 := Lib.hid hb0
  rw [← hb0]
  clear hb2 hb0 c0 c1 c2 c3 c4 c5
  obtain ⟨c0, c1, c2, c3, c4, c5⟩ := HBL2.out.sixT
  go_wp2_with fail
  clear c0 c1 c2 c3 c4 c5
  go_loopw [3, 4, 5, 6] (fun r i _ _ wr => ∃ (q : Nat) (rq : Bool), q ≤ k ∧ i = .int .i64 q ∧ r = .bool rq ∧ Hid (rq = (b0 && distinct (keys.take q))) ∧ Hid (Below w2.heap.size w2 wr)) (fun _ i _ _ _ => k - (intOf i).toNat)
  case atStart => exact ⟨0, b0, Nat.zero_le _, rfl, rfl, Lib.hid (by simp [distinct]), Lib.hid (Below.refl _ _)⟩
  case round =>
    obtain ⟨q, rq, hq, rfl, rfl, HRQ, hb⟩ := hrel
    obtain ⟨c0, c1, c2, c3, c4, c5⟩ := (HBL2.out.ext hb.out).sixT
    by_cases hlt : q < k
    · exact absurd hlt (by omega)
    · obtain rfl : q = k := by omega
      have HRK : Hid (rq = (b0 && distinct keys)) := Lib.hid (by rw [HRQ.out, List.take_of_length_le (by have := HKL.out; omega)])
      have HB3 := Lib.hid (HB2.out.trans (hb.out.mono HB2.out.size))
      have HBL3 := Lib.hid (HBL2.out.ext hb.out)
      clear HRQ hb
      go_wp2_with fail
      clear c0 c1 c2 c3 c4 c5
      go_loopw [3, 7, 8] (fun r i _ wr' => ∃ (p : Nat) (r2 : Bool), p ≤ m ∧ i = .int .i64 p ∧ r = .bool r2 ∧ Hid (r2 = (rq && formeds ((ks.take p).map VD.v))) ∧ Hid (Below wr.heap.size wr wr')) (fun _ i _ _ => m - (intOf i).toNat)
      case atStart => exact ⟨0, rq, Nat.zero_le _, rfl, rfl, Lib.hid (by simp [formeds]), Lib.hid (Below.refl _ _)⟩
      case round =>
        obtain ⟨p, r2, hp, rfl, rfl, HR2, hb⟩ := hrel
        obtain ⟨c0, c1, c2, c3, c4, c5⟩ := (HBL3.out.ext hb.out).sixT
        by_cases hlt2 : p < m
        · exact absurd hlt2 (by omega)
        · obtain rfl : p = m := by omega
          have HF : Hid (r2 = R) := Lib.hid (by rw [HR2.out, HRK.out, HZ0.out, HRR.out, List.take_of_length_le (by have := HML.out; omega)])
          go_wp2
          go_ret
          exact ⟨by rw [← HF.out]; rfl, HB3.out.trans (hb.out.mono HB3.out.size)⟩

set_option maxHeartbeats 16000000 in
set_option maxRecDepth 20000 in
theorem frmR_8 (a : Option Addr) (c : Nat) (ks : List VD) (ka : Option Addr) (kc : Nat) (keys : List Nm) (W : World) (h : ValAt W (fun _ => True) (.mk 4 false 0 [] a c ks ka kc keys)) (hw : sizeV (VD.mk 4 false 0 [] a c ks ka kc keys).v ≤ 1048576) (hh : headF 4 false 0 ([] : Nm) ks.length keys.length = true) (ih : ∀ x ∈ ks, FrmAt x) (hk0 : ¬ ((0 : Int) < (keys.length : Int))) (hm1 : (0 : Int) < (ks.length : Int)) :
    Calls Tryz.prog 25 #[(VD.mk 4 false 0 [] a c ks ka kc keys).val] W (BoE W (formed (VD.mk 4 false 0 [] a c ks ka kc keys).v)) := by
  have hfe : formed (VD.mk 4 false 0 [] a c ks ka kc keys).v = (headF 4 false 0 ([] : Nm) ks.length keys.length && Lib.validD ([] : Nm) && distinct keys && formeds (ks.map VD.v)) := by
    rw [VD.v_eq, formed, headF_ok, List.length_map]; rfl
  obtain ⟨R, hR⟩ : ∃ R : Bool, R = formed (VD.mk 4 false 0 [] a c ks ka kc keys).v := ⟨_, rfl⟩
  rw [← hR] at hfe ⊢
  clear hR
  have hb1 := below_a1 W (.cells #[.int .i64 4, .bool false, .int .i64 0, .string ⟨([] : Nm).toArray⟩, .slice a ks.length c, .slice ka keys.length kc] 26)
  have hsz := sizeV_eq (.mk 4 false 0 ([] : Nm) a c ks ka kc keys)
  simp only [VD.text, VD.keys, VD.list] at hsz
  rw [hsz] at hw
  have hkx : ∀ x ∈ keys, x.length ≤ 1048576 := fun x hx => by
    obtain ⟨i, hi⟩ := List.getElem?_of_mem hx
    have h1 := keysN_take hi
    have h2 := keysN_le keys (i + 1)
    omega
  have hkl := keysN_len keys
  have HKX := Lib.hid hkx
  have HR := Lib.hid h.row
  have HKR := Lib.hid h.krow
  simp only [VD.keys, VD.list, VD.ka, VD.a] at HR HKR
  have HKID : Hid (∀ x ∈ ks, ValAt W (fun _ => True) x) := Lib.hid h.kid
  have HI : Hid (∀ x ∈ ks, ∀ V, ValAt V (fun _ => True) x → Calls Tryz.prog 25 #[x.val] V (BoE V (formed x.v))) := Lib.hid fun x hx V hV => ih x hx V hV (by
    have h1 := sizesV_mem (l := ks.map VD.v) (List.mem_map_of_mem hx)
    omega)
  have hml : ks.length ≤ sizesV (ks.map VD.v) := by have := sizesV_len (ks.map VD.v); simpa using this
  obtain ⟨k, hk⟩ : ∃ k, k = keys.length := ⟨_, rfl⟩
  obtain ⟨m, hm⟩ : ∃ m, m = ks.length := ⟨_, rfl⟩
  have HKL := Lib.hid hk
  rw [← hk] at hk0
  rw [← hm] at hm1
  have HML := Lib.hid hm
  have HRR : Hid (R = (Lib.validD ([] : Nm) && distinct keys && formeds (ks.map VD.v))) := Lib.hid (by rw [hfe, hh, Bool.true_and])
  have hkb : k ≤ 1048576 := by omega
  have hmb : m ≤ 1048576 := by omega
  simp only [VD.val, VD.cells, strV]
  rw [← hk, ← hm]
  clear hb1
  have hb1 := below_a1 W (.cells #[.int .i64 4, .bool false, .int .i64 0, .string ⟨([] : Nm).toArray⟩, .slice a m c, .slice ka k kc] 26)
  have HRT := Lib.hid (ref_right_any ([] : Nm) (W.alloc (.cells #[.int .i64 4, .bool false, .int .i64 0, .string ⟨([] : Nm).toArray⟩, .slice a m c, .slice ka k kc] 26)) (by first | (simp; done) | (simp only [List.length_cons] at hw ⊢; omega)))
  have HBL : Hid (Blk (W.alloc (.cells #[.int .i64 4, .bool false, .int .i64 0, .string ⟨([] : Nm).toArray⟩, .slice a m c, .slice ka k kc] 26)) W.heap.size #[.int .i64 4, .bool false, .int .i64 0, .string ⟨([] : Nm).toArray⟩, .slice a m c, .slice ka k kc] 26) := Lib.hid (Blk.new rfl)
  have Hb1 := Lib.hid hb1
  clear ih h hw hsz hkx hkl hml hfe hh hb1 hk hm
  go_enter Tryz.func25, Tryz.ntmps25
  go_upto_region 1 with (fail)
  obtain ⟨w1, hw1⟩ : ∃ w1, w1 = W.alloc (.cells #[.int .i64 4, .bool false, .int .i64 0, .string ⟨([] : Nm).toArray⟩, .slice a m c, .slice ka k kc] 26) := ⟨_, rfl⟩
  rw [← hw1] at HRT HBL Hb1 ⊢
  clear hw1
  obtain ⟨c0, c1, c2, c3, c4, c5⟩ := HBL.out.sixT
  go_wp2_with fail
  refine HRT.out.mono ?_
  clear HRT
  rintro e w2 ⟨rfl, hb2⟩
  have HB2 := Lib.hid (Hb1.out.trans (hb2.mono Hb1.out.size))
  have HBL2 := Lib.hid (HBL.out.ext hb2)
  obtain ⟨b0, hb0⟩ : ∃ b0, b0 = Lib.validD ([] : Nm) := ⟨_, rfl⟩
  have HZ0 := Lib.hid hb0
  rw [← hb0]
  clear hb2 hb0 c0 c1 c2 c3 c4 c5
  obtain ⟨c0, c1, c2, c3, c4, c5⟩ := HBL2.out.sixT
  go_wp2_with fail
  clear c0 c1 c2 c3 c4 c5
  go_loopw [3, 4, 5, 6] (fun r i _ _ wr => ∃ (q : Nat) (rq : Bool), q ≤ k ∧ i = .int .i64 q ∧ r = .bool rq ∧ Hid (rq = (b0 && distinct (keys.take q))) ∧ Hid (Below w2.heap.size w2 wr)) (fun _ i _ _ _ => k - (intOf i).toNat)
  case atStart => exact ⟨0, b0, Nat.zero_le _, rfl, rfl, Lib.hid (by simp [distinct]), Lib.hid (Below.refl _ _)⟩
  case round =>
    obtain ⟨q, rq, hq, rfl, rfl, HRQ, hb⟩ := hrel
    obtain ⟨c0, c1, c2, c3, c4, c5⟩ := (HBL2.out.ext hb.out).sixT
    by_cases hlt : q < k
    · exact absurd hlt (by omega)
    · obtain rfl : q = k := by omega
      have HRK : Hid (rq = (b0 && distinct keys)) := Lib.hid (by rw [HRQ.out, List.take_of_length_le (by have := HKL.out; omega)])
      have HB3 := Lib.hid (HB2.out.trans (hb.out.mono HB2.out.size))
      have HBL3 := Lib.hid (HBL2.out.ext hb.out)
      clear HRQ hb
      go_wp2_with fail
      clear c0 c1 c2 c3 c4 c5
      go_loopw [3, 7, 8] (fun r i _ wr' => ∃ (p : Nat) (r2 : Bool), p ≤ m ∧ i = .int .i64 p ∧ r = .bool r2 ∧ Hid (r2 = (rq && formeds ((ks.take p).map VD.v))) ∧ Hid (Below wr.heap.size wr wr')) (fun _ i _ _ => m - (intOf i).toNat)
      case atStart => exact ⟨0, rq, Nat.zero_le _, rfl, rfl, Lib.hid (by simp [formeds]), Lib.hid (Below.refl _ _)⟩
      case round =>
        obtain ⟨p, r2, hp, rfl, rfl, HR2, hb⟩ := hrel
        obtain ⟨c0, c1, c2, c3, c4, c5⟩ := (HBL3.out.ext hb.out).sixT
        by_cases hlt2 : p < m
        · have hpm : (p : Int) < m := by omega
          obtain ⟨x, hx⟩ := get_some (l := ks) (i := p) (by have := HML.out; omega)
          have hB := HB3.out.trans (hb.out.mono HB3.out.size)
          obtain ⟨b, off, hae, v0, v1, v2, v3, v4, v5⟩ := val_at (HR.out.ext hB) hx
          unfold strV at v3
          subst hae
          have hxm := List.mem_of_getElem? hx
          have hc := HI.out x hxm _ ((HKID.out x hxm).ext hB)
          rw [VD.val6] at hc
          have Hc := Lib.hid hc
          have HTK : Hid (formeds ((ks.take (p + 1)).map VD.v) = (formeds ((ks.take p).map VD.v) && formed x.v)) := Lib.hid (by rw [take_one hx, List.map_append, formeds_app]; simp [formeds])
          clear hc hx hxm hB
          generalize hfx : formed x.v = fx at *
          clear hfx
          go_wp2_with fail
          refine Hc.out.mono ?_
          clear Hc
          rintro e w3 ⟨rfl, hb3⟩
          have Hb3 := Lib.hid (hb.out.trans (hb3.mono hb.out.size))
          clear hb3
          cases r2 with
          | true =>
            go_wp2
            go_roundw
            case rel => exact ⟨p + 1, fx, by omega, by go_num, rfl, Lib.hid (by rw [HTK.out, ← Bool.and_assoc, ← HR2.out, Bool.true_and]), Hb3⟩
            case measure => simp [intOf]; omega
          | false =>
            go_wp2
            go_roundw
            case rel => exact ⟨p + 1, false, by omega, by go_num, rfl, Lib.hid (by rw [HTK.out, ← Bool.and_assoc, ← HR2.out, Bool.false_and]), Hb3⟩
            case measure => simp [intOf]; omega
        · obtain rfl : p = m := by omega
          have HF : Hid (r2 = R) := Lib.hid (by rw [HR2.out, HRK.out, HZ0.out, HRR.out, List.take_of_length_le (by have := HML.out; omega)])
          go_wp2
          go_ret
          exact ⟨by rw [← HF.out]; rfl, HB3.out.trans (hb.out.mono HB3.out.size)⟩

set_option maxHeartbeats 16000000 in
set_option maxRecDepth 20000 in
theorem frmR_9 (a : Option Addr) (c : Nat) (ks : List VD) (ka : Option Addr) (kc : Nat) (keys : List Nm) (W : World) (h : ValAt W (fun _ => True) (.mk 5 false 0 [] a c ks ka kc keys)) (hw : sizeV (VD.mk 5 false 0 [] a c ks ka kc keys).v ≤ 1048576) (hh : headF 5 false 0 ([] : Nm) ks.length keys.length = true) (ih : ∀ x ∈ ks, FrmAt x) (hk0 : ¬ ((0 : Int) < (keys.length : Int))) (hm0 : ¬ ((0 : Int) < (ks.length : Int))) (hkm : ((keys.length : Int) != (ks.length : Int)) = false) :
    Calls Tryz.prog 25 #[(VD.mk 5 false 0 [] a c ks ka kc keys).val] W (BoE W (formed (VD.mk 5 false 0 [] a c ks ka kc keys).v)) := by
  have hfe : formed (VD.mk 5 false 0 [] a c ks ka kc keys).v = (headF 5 false 0 ([] : Nm) ks.length keys.length && Lib.validD ([] : Nm) && distinct keys && formeds (ks.map VD.v)) := by
    rw [VD.v_eq, formed, headF_ok, List.length_map]; rfl
  obtain ⟨R, hR⟩ : ∃ R : Bool, R = formed (VD.mk 5 false 0 [] a c ks ka kc keys).v := ⟨_, rfl⟩
  rw [← hR] at hfe ⊢
  clear hR
  have hb1 := below_a1 W (.cells #[.int .i64 5, .bool false, .int .i64 0, .string ⟨([] : Nm).toArray⟩, .slice a ks.length c, .slice ka keys.length kc] 26)
  have hsz := sizeV_eq (.mk 5 false 0 ([] : Nm) a c ks ka kc keys)
  simp only [VD.text, VD.keys, VD.list] at hsz
  rw [hsz] at hw
  have hkx : ∀ x ∈ keys, x.length ≤ 1048576 := fun x hx => by
    obtain ⟨i, hi⟩ := List.getElem?_of_mem hx
    have h1 := keysN_take hi
    have h2 := keysN_le keys (i + 1)
    omega
  have hkl := keysN_len keys
  have HKX := Lib.hid hkx
  have HR := Lib.hid h.row
  have HKR := Lib.hid h.krow
  simp only [VD.keys, VD.list, VD.ka, VD.a] at HR HKR
  have HKID : Hid (∀ x ∈ ks, ValAt W (fun _ => True) x) := Lib.hid h.kid
  have HI : Hid (∀ x ∈ ks, ∀ V, ValAt V (fun _ => True) x → Calls Tryz.prog 25 #[x.val] V (BoE V (formed x.v))) := Lib.hid fun x hx V hV => ih x hx V hV (by
    have h1 := sizesV_mem (l := ks.map VD.v) (List.mem_map_of_mem hx)
    omega)
  have hml : ks.length ≤ sizesV (ks.map VD.v) := by have := sizesV_len (ks.map VD.v); simpa using this
  obtain ⟨k, hk⟩ : ∃ k, k = keys.length := ⟨_, rfl⟩
  obtain ⟨m, hm⟩ : ∃ m, m = ks.length := ⟨_, rfl⟩
  have HKL := Lib.hid hk
  rw [← hk] at hk0
  rw [← hm] at hm0
  rw [← hk, ← hm] at hkm
  have HML := Lib.hid hm
  have HRR : Hid (R = (Lib.validD ([] : Nm) && distinct keys && formeds (ks.map VD.v))) := Lib.hid (by rw [hfe, hh, Bool.true_and])
  have hkb : k ≤ 1048576 := by omega
  have hmb : m ≤ 1048576 := by omega
  simp only [VD.val, VD.cells, strV]
  rw [← hk, ← hm]
  clear hb1
  have hb1 := below_a1 W (.cells #[.int .i64 5, .bool false, .int .i64 0, .string ⟨([] : Nm).toArray⟩, .slice a m c, .slice ka k kc] 26)
  have HRT := Lib.hid (ref_right_any ([] : Nm) (W.alloc (.cells #[.int .i64 5, .bool false, .int .i64 0, .string ⟨([] : Nm).toArray⟩, .slice a m c, .slice ka k kc] 26)) (by first | (simp; done) | (simp only [List.length_cons] at hw ⊢; omega)))
  have HBL : Hid (Blk (W.alloc (.cells #[.int .i64 5, .bool false, .int .i64 0, .string ⟨([] : Nm).toArray⟩, .slice a m c, .slice ka k kc] 26)) W.heap.size #[.int .i64 5, .bool false, .int .i64 0, .string ⟨([] : Nm).toArray⟩, .slice a m c, .slice ka k kc] 26) := Lib.hid (Blk.new rfl)
  have Hb1 := Lib.hid hb1
  clear ih h hw hsz hkx hkl hml hfe hh hb1 hk hm
  go_enter Tryz.func25, Tryz.ntmps25
  go_upto_region 1 with (fail)
  obtain ⟨w1, hw1⟩ : ∃ w1, w1 = W.alloc (.cells #[.int .i64 5, .bool false, .int .i64 0, .string ⟨([] : Nm).toArray⟩, .slice a m c, .slice ka k kc] 26) := ⟨_, rfl⟩
  rw [← hw1] at HRT HBL Hb1 ⊢
  clear hw1
  obtain ⟨c0, c1, c2, c3, c4, c5⟩ := HBL.out.sixT
  go_wp2_with fail
  refine HRT.out.mono ?_
  clear HRT
  rintro e w2 ⟨rfl, hb2⟩
  have HB2 := Lib.hid (Hb1.out.trans (hb2.mono Hb1.out.size))
  have HBL2 := Lib.hid (HBL.out.ext hb2)
  obtain ⟨b0, hb0⟩ : ∃ b0, b0 = Lib.validD ([] : Nm) := ⟨_, rfl⟩
  have HZ0 := Lib.hid hb0
  rw [← hb0]
  clear hb2 hb0 c0 c1 c2 c3 c4 c5
  obtain ⟨c0, c1, c2, c3, c4, c5⟩ := HBL2.out.sixT
  go_wp2_with fail
  clear c0 c1 c2 c3 c4 c5
  go_loopw [3, 4, 5, 6] (fun r i _ _ wr => ∃ (q : Nat) (rq : Bool), q ≤ k ∧ i = .int .i64 q ∧ r = .bool rq ∧ Hid (rq = (b0 && distinct (keys.take q))) ∧ Hid (Below w2.heap.size w2 wr)) (fun _ i _ _ _ => k - (intOf i).toNat)
  case atStart => exact ⟨0, b0, Nat.zero_le _, rfl, rfl, Lib.hid (by simp [distinct]), Lib.hid (Below.refl _ _)⟩
  case round =>
    obtain ⟨q, rq, hq, rfl, rfl, HRQ, hb⟩ := hrel
    obtain ⟨c0, c1, c2, c3, c4, c5⟩ := (HBL2.out.ext hb.out).sixT
    by_cases hlt : q < k
    · exact absurd hlt (by omega)
    · obtain rfl : q = k := by omega
      have HRK : Hid (rq = (b0 && distinct keys)) := Lib.hid (by rw [HRQ.out, List.take_of_length_le (by have := HKL.out; omega)])
      have HB3 := Lib.hid (HB2.out.trans (hb.out.mono HB2.out.size))
      have HBL3 := Lib.hid (HBL2.out.ext hb.out)
      clear HRQ hb
      go_wp2_with fail
      clear c0 c1 c2 c3 c4 c5
      go_loopw [3, 7, 8] (fun r i _ wr' => ∃ (p : Nat) (r2 : Bool), p ≤ m ∧ i = .int .i64 p ∧ r = .bool r2 ∧ Hid (r2 = (rq && formeds ((ks.take p).map VD.v))) ∧ Hid (Below wr.heap.size wr wr')) (fun _ i _ _ => m - (intOf i).toNat)
      case atStart => exact ⟨0, rq, Nat.zero_le _, rfl, rfl, Lib.hid (by simp [formeds]), Lib.hid (Below.refl _ _)⟩
      case round =>
        obtain ⟨p, r2, hp, rfl, rfl, HR2, hb⟩ := hrel
        obtain ⟨c0, c1, c2, c3, c4, c5⟩ := (HBL3.out.ext hb.out).sixT
        by_cases hlt2 : p < m
        · exact absurd hlt2 (by omega)
        · obtain rfl : p = m := by omega
          have HF : Hid (r2 = R) := Lib.hid (by rw [HR2.out, HRK.out, HZ0.out, HRR.out, List.take_of_length_le (by have := HML.out; omega)])
          go_wp2
          go_ret
          exact ⟨by rw [← HF.out]; rfl, HB3.out.trans (hb.out.mono HB3.out.size)⟩

set_option maxHeartbeats 16000000 in
set_option maxRecDepth 20000 in
theorem frmR_10 (a : Option Addr) (c : Nat) (ks : List VD) (ka : Option Addr) (kc : Nat) (keys : List Nm) (W : World) (h : ValAt W (fun _ => True) (.mk 5 false 0 [] a c ks ka kc keys)) (hw : sizeV (VD.mk 5 false 0 [] a c ks ka kc keys).v ≤ 1048576) (hh : headF 5 false 0 ([] : Nm) ks.length keys.length = true) (ih : ∀ x ∈ ks, FrmAt x) (hk1 : (0 : Int) < (keys.length : Int)) (hm1 : (0 : Int) < (ks.length : Int)) (hkm : ((keys.length : Int) != (ks.length : Int)) = false) :
    Calls Tryz.prog 25 #[(VD.mk 5 false 0 [] a c ks ka kc keys).val] W (BoE W (formed (VD.mk 5 false 0 [] a c ks ka kc keys).v)) := by
  have hfe : formed (VD.mk 5 false 0 [] a c ks ka kc keys).v = (headF 5 false 0 ([] : Nm) ks.length keys.length && Lib.validD ([] : Nm) && distinct keys && formeds (ks.map VD.v)) := by
    rw [VD.v_eq, formed, headF_ok, List.length_map]; rfl
  obtain ⟨R, hR⟩ : ∃ R : Bool, R = formed (VD.mk 5 false 0 [] a c ks ka kc keys).v := ⟨_, rfl⟩
  rw [← hR] at hfe ⊢
  clear hR
  have hb1 := below_a1 W (.cells #[.int .i64 5, .bool false, .int .i64 0, .string ⟨([] : Nm).toArray⟩, .slice a ks.length c, .slice ka keys.length kc] 26)
  have hsz := sizeV_eq (.mk 5 false 0 ([] : Nm) a c ks ka kc keys)
  simp only [VD.text, VD.keys, VD.list] at hsz
  rw [hsz] at hw
  have hkx : ∀ x ∈ keys, x.length ≤ 1048576 := fun x hx => by
    obtain ⟨i, hi⟩ := List.getElem?_of_mem hx
    have h1 := keysN_take hi
    have h2 := keysN_le keys (i + 1)
    omega
  have hkl := keysN_len keys
  have HKX := Lib.hid hkx
  have HR := Lib.hid h.row
  have HKR := Lib.hid h.krow
  simp only [VD.keys, VD.list, VD.ka, VD.a] at HR HKR
  have HKID : Hid (∀ x ∈ ks, ValAt W (fun _ => True) x) := Lib.hid h.kid
  have HI : Hid (∀ x ∈ ks, ∀ V, ValAt V (fun _ => True) x → Calls Tryz.prog 25 #[x.val] V (BoE V (formed x.v))) := Lib.hid fun x hx V hV => ih x hx V hV (by
    have h1 := sizesV_mem (l := ks.map VD.v) (List.mem_map_of_mem hx)
    omega)
  have hml : ks.length ≤ sizesV (ks.map VD.v) := by have := sizesV_len (ks.map VD.v); simpa using this
  obtain ⟨k, hk⟩ : ∃ k, k = keys.length := ⟨_, rfl⟩
  obtain ⟨m, hm⟩ : ∃ m, m = ks.length := ⟨_, rfl⟩
  have HKL := Lib.hid hk
  rw [← hk] at hk1
  rw [← hm] at hm1
  rw [← hk, ← hm] at hkm
  have HML := Lib.hid hm
  have HRR : Hid (R = (Lib.validD ([] : Nm) && distinct keys && formeds (ks.map VD.v))) := Lib.hid (by rw [hfe, hh, Bool.true_and])
  have hkb : k ≤ 1048576 := by omega
  have hmb : m ≤ 1048576 := by omega
  simp only [VD.val, VD.cells, strV]
  rw [← hk, ← hm]
  clear hb1
  have hb1 := below_a1 W (.cells #[.int .i64 5, .bool false, .int .i64 0, .string ⟨([] : Nm).toArray⟩, .slice a m c, .slice ka k kc] 26)
  have HRT := Lib.hid (ref_right_any ([] : Nm) (W.alloc (.cells #[.int .i64 5, .bool false, .int .i64 0, .string ⟨([] : Nm).toArray⟩, .slice a m c, .slice ka k kc] 26)) (by first | (simp; done) | (simp only [List.length_cons] at hw ⊢; omega)))
  have HBL : Hid (Blk (W.alloc (.cells #[.int .i64 5, .bool false, .int .i64 0, .string ⟨([] : Nm).toArray⟩, .slice a m c, .slice ka k kc] 26)) W.heap.size #[.int .i64 5, .bool false, .int .i64 0, .string ⟨([] : Nm).toArray⟩, .slice a m c, .slice ka k kc] 26) := Lib.hid (Blk.new rfl)
  have Hb1 := Lib.hid hb1
  clear ih h hw hsz hkx hkl hml hfe hh hb1 hk hm
  go_enter Tryz.func25, Tryz.ntmps25
  go_upto_region 1 with (fail)
  obtain ⟨w1, hw1⟩ : ∃ w1, w1 = W.alloc (.cells #[.int .i64 5, .bool false, .int .i64 0, .string ⟨([] : Nm).toArray⟩, .slice a m c, .slice ka k kc] 26) := ⟨_, rfl⟩
  rw [← hw1] at HRT HBL Hb1 ⊢
  clear hw1
  obtain ⟨c0, c1, c2, c3, c4, c5⟩ := HBL.out.sixT
  go_wp2_with fail
  refine HRT.out.mono ?_
  clear HRT
  rintro e w2 ⟨rfl, hb2⟩
  have HB2 := Lib.hid (Hb1.out.trans (hb2.mono Hb1.out.size))
  have HBL2 := Lib.hid (HBL.out.ext hb2)
  obtain ⟨b0, hb0⟩ : ∃ b0, b0 = Lib.validD ([] : Nm) := ⟨_, rfl⟩
  have HZ0 := Lib.hid hb0
  rw [← hb0]
  clear hb2 hb0 c0 c1 c2 c3 c4 c5
  obtain ⟨c0, c1, c2, c3, c4, c5⟩ := HBL2.out.sixT
  go_wp2_with fail
  clear c0 c1 c2 c3 c4 c5
  go_loopw [3, 4, 5, 6] (fun r i _ _ wr => ∃ (q : Nat) (rq : Bool), q ≤ k ∧ i = .int .i64 q ∧ r = .bool rq ∧ Hid (rq = (b0 && distinct (keys.take q))) ∧ Hid (Below w2.heap.size w2 wr)) (fun _ i _ _ _ => k - (intOf i).toNat)
  case atStart => exact ⟨0, b0, Nat.zero_le _, rfl, rfl, Lib.hid (by simp [distinct]), Lib.hid (Below.refl _ _)⟩
  case round =>
    obtain ⟨q, rq, hq, rfl, rfl, HRQ, hb⟩ := hrel
    obtain ⟨c0, c1, c2, c3, c4, c5⟩ := (HBL2.out.ext hb.out).sixT
    by_cases hlt : q < k
    · have hqk : (q : Int) < k := by omega
      obtain ⟨x, hx⟩ := get_some (l := keys) (i := q) (by have := HKL.out; omega)
      have HX := Lib.hid hx
      have hbw := HB2.out.trans (hb.out.mono HB2.out.size)
      obtain ⟨kb, koff, hka, y0⟩ := (HKR.out.ext hbw).elem1 hx
      unfold strV at y0
      subst hka
      have hxl := HKX.out x (List.mem_of_getElem? hx)
      have hc := ref_right_any x wr (by omega)
      have HC := Lib.hid hc
      clear hc hx hbw
      go_wp2_with fail
      refine HC.out.mono ?_
      clear HC
      rintro e w3 ⟨rfl, hb3⟩
      have HB3 := Lib.hid (hb.out.trans (hb3.mono hb.out.size))
      obtain ⟨b1, hb1⟩ : ∃ b1, b1 = Lib.validD x := ⟨_, rfl⟩
      have HZ1 := Lib.hid hb1
      rw [← hb1]
      obtain ⟨r1, hr1⟩ : ∃ r1, r1 = (rq && b1) := ⟨_, rfl⟩
      have HR1 := Lib.hid hr1
      have HN : Hid ((b0 && distinct (keys.take (q + 1))) = (r1 && !(keys.take q).contains x)) := Lib.hid (by rw [take_one HX.out, distinct_snocB, hr1, HRQ.out, HZ1.out]; ac_rfl)
      clear hb3 hb1 c0 c1 c2 c3 c4 c5 y0
      cases rq with
      | true =>
        obtain ⟨c0, c1, c2, c3, c4, c5⟩ := (HBL2.out.ext HB3.out).sixT
        go_wp2_with fail
        clear c0 c1 c2 c3 c4 c5
        go_loopw [3, 6] (fun r i wr' => ∃ (q2 : Nat) (r' : Bool), q2 ≤ q ∧ i = .int .i64 q2 ∧ r = .bool r' ∧ Hid (r' = (r1 && !(keys.take q2).contains x)) ∧ Hid (Below w3.heap.size w3 wr')) (fun _ i _ => q - (intOf i).toNat)
        case atStart => exact ⟨0, b1, Nat.zero_le _, rfl, rfl, Lib.hid (by rw [HR1.out]; simp), Lib.hid (Below.refl _ _)⟩
        case round =>
          obtain ⟨q2, r', hq2, rfl, rfl, HR', hb4⟩ := hrel
          have HB4 := Lib.hid (HB3.out.trans (hb4.out.mono HB3.out.size))
          obtain ⟨c0, c1, c2, c3, c4, c5⟩ := (HBL2.out.ext HB4.out).sixT
          by_cases hlt2 : q2 < q
          · have hqk2 : (q2 : Int) < k := by omega
            obtain ⟨z, hz⟩ := get_some (l := keys) (i := q2) (by have := HKL.out; omega)
            have hbw := HB2.out.trans (HB4.out.mono HB2.out.size)
            obtain ⟨kb2, koff2, hka2, z0⟩ := (HKR.out.ext hbw).elem1 hz
            obtain ⟨kb3, koff3, hka3, y0⟩ := (HKR.out.ext hbw).elem1 HX.out
            unfold strV at y0 z0
            cases hka2
            cases hka3
            have HT : Hid ((keys.take (q2 + 1)).contains x = ((keys.take q2).contains x || (z == x))) := Lib.hid (by rw [take_one hz, contains_snoc])
            clear hz hbw
            cases r' with
            | true =>
              by_cases hzx : z = x
              · have e1 : (z == x) = true := by simpa using hzx
                have e2 : (z != x) = false := by simpa using hzx
                have HF : Hid (false = (r1 && !(keys.take (q2 + 1)).contains x)) := Lib.hid (by rw [HT.out, e1, Bool.or_true]; simp)
                clear hzx
                go_wp2_with fail
                go_quiet (fail)
                go_wp2
                go_roundw
                case rel => exact ⟨q2 + 1, false, by omega, by go_num, rfl, HF, Lib.hid (below_drew hb4.out _)⟩
                case measure => simp [intOf]; omega
              · have e1 : (z == x) = false := by simpa using hzx
                have e2 : (z != x) = true := by simpa using hzx
                have HF : Hid (true = (r1 && !(keys.take (q2 + 1)).contains x)) := Lib.hid (by rw [HT.out, e1, Bool.or_false]; exact HR'.out)
                clear hzx
                go_wp2_with fail
                go_quiet (fail)
                go_wp2
                go_roundw
                case rel => exact ⟨q2 + 1, true, by omega, by go_num, rfl, HF, Lib.hid (below_drew hb4.out _)⟩
                case measure => simp [intOf]; omega
            | false =>
              have HF : Hid (false = (r1 && !(keys.take (q2 + 1)).contains x)) := Lib.hid (by
                rw [HT.out]; have := HR'.out; revert this; cases r1 <;> cases (keys.take q2).contains x <;> simp)
              go_wp2_with fail
              go_quiet (fail)
              go_wp2
              go_roundw
              case rel => exact ⟨q2 + 1, false, by omega, by go_num, rfl, HF, Lib.hid (below_drew hb4.out _)⟩
              case measure => simp [intOf]; omega
          · obtain rfl : q2 = q := by omega
            have HF : Hid (r' = (b0 && distinct (keys.take (q2 + 1)))) := Lib.hid (by rw [HN.out]; exact HR'.out)
            go_wp2
            go_roundw
            case rel => exact ⟨q2 + 1, r', by omega, by go_num, rfl, HF, HB4⟩
            case measure => simp [intOf]; omega
      | false =>
        obtain ⟨c0, c1, c2, c3, c4, c5⟩ := (HBL2.out.ext HB3.out).sixT
        go_wp2_with fail
        clear c0 c1 c2 c3 c4 c5
        go_loopw [3, 6] (fun r i wr' => ∃ (q2 : Nat) (r' : Bool), q2 ≤ q ∧ i = .int .i64 q2 ∧ r = .bool r' ∧ Hid (r' = (r1 && !(keys.take q2).contains x)) ∧ Hid (Below w3.heap.size w3 wr')) (fun _ i _ => q - (intOf i).toNat)
        case atStart => exact ⟨0, false, Nat.zero_le _, rfl, rfl, Lib.hid (by rw [HR1.out]; simp), Lib.hid (Below.refl _ _)⟩
        case round =>
          obtain ⟨q2, r', hq2, rfl, rfl, HR', hb4⟩ := hrel
          have HB4 := Lib.hid (HB3.out.trans (hb4.out.mono HB3.out.size))
          obtain ⟨c0, c1, c2, c3, c4, c5⟩ := (HBL2.out.ext HB4.out).sixT
          by_cases hlt2 : q2 < q
          · have hqk2 : (q2 : Int) < k := by omega
            obtain ⟨z, hz⟩ := get_some (l := keys) (i := q2) (by have := HKL.out; omega)
            have hbw := HB2.out.trans (HB4.out.mono HB2.out.size)
            obtain ⟨kb2, koff2, hka2, z0⟩ := (HKR.out.ext hbw).elem1 hz
            obtain ⟨kb3, koff3, hka3, y0⟩ := (HKR.out.ext hbw).elem1 HX.out
            unfold strV at y0 z0
            cases hka2
            cases hka3
            have HT : Hid ((keys.take (q2 + 1)).contains x = ((keys.take q2).contains x || (z == x))) := Lib.hid (by rw [take_one hz, contains_snoc])
            clear hz hbw
            cases r' with
            | true =>
              by_cases hzx : z = x
              · have e1 : (z == x) = true := by simpa using hzx
                have e2 : (z != x) = false := by simpa using hzx
                have HF : Hid (false = (r1 && !(keys.take (q2 + 1)).contains x)) := Lib.hid (by rw [HT.out, e1, Bool.or_true]; simp)
                clear hzx
                go_wp2_with fail
                go_quiet (fail)
                go_wp2
                go_roundw
                case rel => exact ⟨q2 + 1, false, by omega, by go_num, rfl, HF, Lib.hid (below_drew hb4.out _)⟩
                case measure => simp [intOf]; omega
              · have e1 : (z == x) = false := by simpa using hzx
                have e2 : (z != x) = true := by simpa using hzx
                have HF : Hid (true = (r1 && !(keys.take (q2 + 1)).contains x)) := Lib.hid (by rw [HT.out, e1, Bool.or_false]; exact HR'.out)
                clear hzx
                go_wp2_with fail
                go_quiet (fail)
                go_wp2
                go_roundw
                case rel => exact ⟨q2 + 1, true, by omega, by go_num, rfl, HF, Lib.hid (below_drew hb4.out _)⟩
                case measure => simp [intOf]; omega
            | false =>
              have HF : Hid (false = (r1 && !(keys.take (q2 + 1)).contains x)) := Lib.hid (by
                rw [HT.out]; have := HR'.out; revert this; cases r1 <;> cases (keys.take q2).contains x <;> simp)
              go_wp2_with fail
              go_quiet (fail)
              go_wp2
              go_roundw
              case rel => exact ⟨q2 + 1, false, by omega, by go_num, rfl, HF, Lib.hid (below_drew hb4.out _)⟩
              case measure => simp [intOf]; omega
          · obtain rfl : q2 = q := by omega
            have HF : Hid (r' = (b0 && distinct (keys.take (q2 + 1)))) := Lib.hid (by rw [HN.out]; exact HR'.out)
            go_wp2
            go_roundw
            case rel => exact ⟨q2 + 1, r', by omega, by go_num, rfl, HF, HB4⟩
            case measure => simp [intOf]; omega
    · obtain rfl : q = k := by omega
      have HRK : Hid (rq = (b0 && distinct keys)) := Lib.hid (by rw [HRQ.out, List.take_of_length_le (by have := HKL.out; omega)])
      have HB3 := Lib.hid (HB2.out.trans (hb.out.mono HB2.out.size))
      have HBL3 := Lib.hid (HBL2.out.ext hb.out)
      clear HRQ hb
      go_wp2_with fail
      clear c0 c1 c2 c3 c4 c5
      go_loopw [3, 7, 8] (fun r i _ wr' => ∃ (p : Nat) (r2 : Bool), p ≤ m ∧ i = .int .i64 p ∧ r = .bool r2 ∧ Hid (r2 = (rq && formeds ((ks.take p).map VD.v))) ∧ Hid (Below wr.heap.size wr wr')) (fun _ i _ _ => m - (intOf i).toNat)
      case atStart => exact ⟨0, rq, Nat.zero_le _, rfl, rfl, Lib.hid (by simp [formeds]), Lib.hid (Below.refl _ _)⟩
      case round =>
        obtain ⟨p, r2, hp, rfl, rfl, HR2, hb⟩ := hrel
        obtain ⟨c0, c1, c2, c3, c4, c5⟩ := (HBL3.out.ext hb.out).sixT
        by_cases hlt2 : p < m
        · have hpm : (p : Int) < m := by omega
          obtain ⟨x, hx⟩ := get_some (l := ks) (i := p) (by have := HML.out; omega)
          have hB := HB3.out.trans (hb.out.mono HB3.out.size)
          obtain ⟨b, off, hae, v0, v1, v2, v3, v4, v5⟩ := val_at (HR.out.ext hB) hx
          unfold strV at v3
          subst hae
          have hxm := List.mem_of_getElem? hx
          have hc := HI.out x hxm _ ((HKID.out x hxm).ext hB)
          rw [VD.val6] at hc
          have Hc := Lib.hid hc
          have HTK : Hid (formeds ((ks.take (p + 1)).map VD.v) = (formeds ((ks.take p).map VD.v) && formed x.v)) := Lib.hid (by rw [take_one hx, List.map_append, formeds_app]; simp [formeds])
          clear hc hx hxm hB
          generalize hfx : formed x.v = fx at *
          clear hfx
          go_wp2_with fail
          refine Hc.out.mono ?_
          clear Hc
          rintro e w3 ⟨rfl, hb3⟩
          have Hb3 := Lib.hid (hb.out.trans (hb3.mono hb.out.size))
          clear hb3
          cases r2 with
          | true =>
            go_wp2
            go_roundw
            case rel => exact ⟨p + 1, fx, by omega, by go_num, rfl, Lib.hid (by rw [HTK.out, ← Bool.and_assoc, ← HR2.out, Bool.true_and]), Hb3⟩
            case measure => simp [intOf]; omega
          | false =>
            go_wp2
            go_roundw
            case rel => exact ⟨p + 1, false, by omega, by go_num, rfl, Lib.hid (by rw [HTK.out, ← Bool.and_assoc, ← HR2.out, Bool.false_and]), Hb3⟩
            case measure => simp [intOf]; omega
        · obtain rfl : p = m := by omega
          have HF : Hid (r2 = R) := Lib.hid (by rw [HR2.out, HRK.out, HZ0.out, HRR.out, List.take_of_length_le (by have := HML.out; omega)])
          go_wp2
          go_ret
          exact ⟨by rw [← HF.out]; rfl, HB3.out.trans (hb.out.mono HB3.out.size)⟩

theorem hf_k {s : Int} {o : Bool} {n : Int} {t : Nm} {m k : Nat} (hk : 0 < k) (h5 : s ≠ 5) : headF s o n t m k = false := by
  unfold headF emptyOk
  have e : (k == 0) = false := by rw [beq_eq_false_iff_ne]; omega
  rw [if_neg h5, e]; simp
theorem hf_m {s : Int} {o : Bool} {n : Int} {t : Nm} {m k : Nat} (hm : 0 < m) (h4 : s ≠ 4) (h5 : s ≠ 5) : headF s o n t m k = false := by
  unfold headF emptyOk
  have e : (m == 0) = false := by rw [beq_eq_false_iff_ne]; omega
  have e4 : (s == 4) = false := by rw [beq_eq_false_iff_ne]; exact h4
  rw [if_neg h5, e, e4]; simp
theorem hf_km {o : Bool} {n : Int} {t : Nm} {m k : Nat} (h : k ≠ m) : headF 5 o n t m k = false := by
  unfold headF emptyOk
  have e : (k == m) = false := by rw [beq_eq_false_iff_ne]; exact h
  rw [if_pos rfl, e]; simp
set_option maxHeartbeats 4000000 in
theorem formedR_any : ∀ d : VD, FrmAt d := by
  intro d
  induction d using VD.ind with
  | h s o n t a c ks ka kc keys ih =>
    intro W h hw
    have ne : ∀ {x y : Int}, x ≠ y → (x == y) = false := fun h => by simpa using h
    have nx : ∀ {x y : Int}, x ≠ y → (x != y) = true := fun h => by simpa using h
    cases o with
    | true =>
      by_cases s1 : s = 1
      · subst s1
        by_cases n0 : n = 0
        · subst n0
          cases t with
          | cons u t => exact frmF3b u t a c ks ka kc keys W (by simp [headF, emptyOk])
          | nil =>
            by_cases hk : (0 : Int) < (keys.length : Int)
            · exact frmF4b a c ks ka kc keys W (hf_k (by omega) (by decide)) hk
            by_cases hm : (0 : Int) < (ks.length : Int)
            · exact frmF5b a c ks ka kc keys W (hf_m (by omega) (by decide) (by decide)) hk hm
            exact frmR_1 a c ks ka kc keys W h hw (by rw [show keys.length = 0 by omega, show ks.length = 0 by omega]; rfl) ih hk hm
        · exact frmF2b n t a c ks ka kc keys W (by simp [headF, emptyOk, n0]) (ne n0) (nx n0)
      · exact frmF1 s n t a c ks ka kc keys W (by simp [headF, emptyOk, s1]) (ne s1) (nx s1)
    | false =>
      by_cases n0 : n = 0
      · subst n0
        cases t with
        | cons u t =>
          by_cases s3 : s = 3
          · subst s3
            by_cases hk : (0 : Int) < (keys.length : Int)
            · exact frmF4d u t a c ks ka kc keys W (hf_k (by omega) (by decide)) hk
            by_cases hm : (0 : Int) < (ks.length : Int)
            · exact frmF5d u t a c ks ka kc keys W (hf_m (by omega) (by decide) (by decide)) hk hm
            exact frmR_6 u t a c ks ka kc keys W h hw (by rw [show keys.length = 0 by omega, show ks.length = 0 by omega]; rfl) ih hk hm
          · exact frmF3a s u t a c ks ka kc keys W (by simp [headF, emptyOk, s3]) (ne s3) (nx s3)
        | nil =>
          by_cases hk : (0 : Int) < (keys.length : Int)
          · by_cases s5 : s = 5
            · subst s5
              by_cases hm : (0 : Int) < (ks.length : Int)
              · by_cases km : keys.length = ks.length
                · exact frmR_10 a c ks ka kc keys W h hw (by simp [headF, emptyOk, km]) ih hk hm (by rw [km]; simp)
                · exact frmG5a a c ks ka kc keys W (hf_km (by omega)) hk hm (ne (by omega)) (nx (by omega))
              · exact frmG5c a c ks ka kc keys W (hf_km (by omega)) hk hm (ne (by omega)) (nx (by omega))
            · exact frmF4a s a c ks ka kc keys W (hf_k (by omega) s5) (ne s5) (nx s5) hk
          · have hk' : keys.length = 0 := by omega
            by_cases hm : (0 : Int) < (ks.length : Int)
            · have hm' : ks.length ≠ 0 := by omega
              by_cases s4 : s = 4
              · subst s4
                exact frmR_8 a c ks ka kc keys W h hw (by rw [hk']; simp [headF, emptyOk]) ih hk hm
              by_cases s5 : s = 5
              · subst s5
                exact frmG5b a c ks ka kc keys W (hf_km (by omega)) hk hm (ne (by omega)) (nx (by omega))
              exact frmF5a s a c ks ka kc keys W (hf_m (by omega) s4 s5) (ne s4) (nx s4) (ne s5) (nx s5) hk hm
            · have hm' : ks.length = 0 := by omega
              by_cases hs : s < 0
              · exact frmG1 s a c ks ka kc keys W (by simp [headF, show ¬ 0 ≤ s by omega]) hk hm hs
              by_cases hs5 : 5 < s
              · exact frmG2 s a c ks ka kc keys W (by simp [headF, show ¬ s ≤ 5 by omega]) hk hm hs hs5
              have hall : s = 0 ∨ s = 1 ∨ s = 2 ∨ s = 3 ∨ s = 4 ∨ s = 5 := by omega
              rcases hall with rfl | rfl | rfl | rfl | rfl | rfl
              · exact frmR_0 a c ks ka kc keys W h hw (by rw [hk', hm']; rfl) ih hk hm
              · exact frmR_2 a c ks ka kc keys W h hw (by rw [hk', hm']; rfl) ih hk hm
              · exact frmR_4 a c ks ka kc keys W h hw (by rw [hk', hm']; rfl) ih hk hm
              · exact frmR_5 a c ks ka kc keys W h hw (by rw [hk', hm']; rfl) ih hk hm
              · exact frmR_7 a c ks ka kc keys W h hw (by rw [hk', hm']; rfl) ih hk hm
              · exact frmR_9 a c ks ka kc keys W h hw (by rw [hk', hm']; rfl) ih hk hm (by rw [hk', hm']; simp)
      · by_cases s2 : s = 2
        · subst s2
          cases t with
          | cons u t => exact frmF3c n u t a c ks ka kc keys W (by simp [headF, emptyOk]) (ne n0) (nx n0)
          | nil =>
            by_cases hk : (0 : Int) < (keys.length : Int)
            · exact frmF4c n a c ks ka kc keys W (hf_k (by omega) (by decide)) (ne n0) (nx n0) hk
            have hk' : keys.length = 0 := by omega
            by_cases hm : (0 : Int) < (ks.length : Int)
            · have hm' : ks.length ≠ 0 := by omega
              exact frmF5c n a c ks ka kc keys W (hf_m (by omega) (by decide) (by decide)) (ne n0) (nx n0) hk hm
            have hm' : ks.length = 0 := by omega
            by_cases h1 : n < -9007199254740992
            · exact frmG3 n a c ks ka kc keys W (by simp [headF, show ¬ -9007199254740992 ≤ n by omega]) (ne n0) (nx n0) hk hm h1
            by_cases h2 : 9007199254740992 < n
            · exact frmG4 n a c ks ka kc keys W (by simp [headF, show ¬ n ≤ 9007199254740992 by omega]) (ne n0) (nx n0) hk hm h1 h2
            exact frmR_3 n a c ks ka kc keys W h hw (by rw [hk', hm']; simp [headF, emptyOk]; omega) ih hk hm (nx n0) (by omega) (by omega)
        · exact frmF2a s n t a c ks ka kc keys W (by simp [headF, emptyOk, n0, s2]) (ne s2) (nx s2) (ne n0) (nx n0)

set_option maxHeartbeats 4000000 in
theorem rightR_any (d : VD) (w : World) (hv : ValAt w (fun _ => True) d) (hs : sizeV d.v ≤ 1048576) : Calls Tryz.prog 17 #[d.val] w (BoE w (right 20 d.v)) := by
  have hrf := right_formed d.v 20
  have hb1 := below_a1 w (.cells #[.int .i64 d.sort, .bool d.on, .int .i64 d.n, .string ⟨d.text.toArray⟩, .slice d.a d.list.length d.c, .slice d.ka d.keys.length d.kc] 26)
  have hf := formedR_any d _ (hv.ext hb1) hs
  have hdp : deep d.v ≤ 1048576 := Nat.le_trans (deep_size d.v) hs
  obtain ⟨R, hR⟩ : ∃ R, R = right 20 d.v := ⟨_, rfl⟩
  rw [← hR] at hrf ⊢
  rw [VD.val6] at hf ⊢
  obtain ⟨W1, hW1⟩ : ∃ W1, W1 = w.alloc (.cells #[.int .i64 d.sort, .bool d.on, .int .i64 d.n, .string ⟨d.text.toArray⟩, .slice d.a d.list.length d.c, .slice d.ka d.keys.length d.kc] 26) := ⟨_, rfl⟩
  have HBL : Hid (Blk W1 w.heap.size #[.int .i64 d.sort, .bool d.on, .int .i64 d.n, .string ⟨d.text.toArray⟩, .slice d.a d.list.length d.c, .slice d.ka d.keys.length d.kc] 26) := Lib.hid (by rw [hW1]; exact Blk.new rfl)
  rw [← hW1] at hf hb1
  have HF := Lib.hid hf
  have HB1 := Lib.hid hb1
  have HRF := Lib.hid hrf
  have HV := Lib.hid hv
  have HS := Lib.hid hs
  clear hf hb1 hrf hR hv hs
  go_enter Tryz.func17, Tryz.ntmps17
  go_upto_region 1 with (fail)
  rw [← hW1]
  clear hW1
  obtain ⟨c0, c1, c2, c3, c4, c5⟩ := HBL.out.sixT
  go_wp2_with fail
  refine HF.out.mono ?_
  clear HF
  rintro e w2 ⟨rfl, hb2⟩
  have HB2 := Lib.hid (HB1.out.trans (hb2.mono HB1.out.size))
  have HBL2 := Lib.hid (HBL.out.ext hb2)
  clear hb2 c0 c1 c2 c3 c4 c5
  generalize formed d.v = fm at *
  cases fm with
  | false =>
    have HR : Hid (R = false) := Lib.hid (by rw [HRF.out]; rfl)
    go_wp2
    go_ret
    exact ⟨by first | (rw [HR.out]; done) | (rw [HR.out]; rfl), HB2.out⟩
  | true =>
    have hd := deepR_any d w2 (HV.out.ext HB2.out) HS.out
    rw [VD.val6] at hd
    have HD := Lib.hid hd
    have HR : Hid (R = decide (deep d.v ≤ 20)) := Lib.hid (by rw [HRF.out]; rfl)
    clear hd
    obtain ⟨c0, c1, c2, c3, c4, c5⟩ := HBL2.out.sixT
    generalize deep d.v = dp at *
    go_wp2_with fail
    refine HD.out.mono ?_
    clear HD
    rintro e w3 ⟨rfl, hb3⟩
    have HB3 := Lib.hid (HB2.out.trans (hb3.mono HB2.out.size))
    clear hb3
    have HQ : Hid (decide ((dp : Int) ≤ 20) = R) := Lib.hid (by rw [HR.out]; exact decide_eq_decide.2 (by omega))
    go_wp2
    go_ret
    refine ⟨?_, HB3.out⟩
    show Ending.returned (.bool (decide ((dp : Int) ≤ 20))) = .returned (.bool R)
    rw [HQ.out]

set_option maxHeartbeats 4000000 in
theorem writeR_any (d : VD) (w : World) (hv : ValAt w (fun _ => True) d) (hs : sizeV d.v ≤ 1048576) : Calls Tryz.prog 11 #[d.val] w (fun e w' => e = .returned (wrote d.v) ∧ Below w.heap.size w w') := by
  have hb1 := below_a1 w (.cells #[.int .i64 d.sort, .bool d.on, .int .i64 d.n, .string ⟨d.text.toArray⟩, .slice d.a d.list.length d.c, .slice d.ka d.keys.length d.kc] 26)
  have hf := rightR_any d _ (hv.ext hb1) hs
  rw [VD.val6] at hf ⊢
  obtain ⟨W1, hW1⟩ : ∃ W1, W1 = w.alloc (.cells #[.int .i64 d.sort, .bool d.on, .int .i64 d.n, .string ⟨d.text.toArray⟩, .slice d.a d.list.length d.c, .slice d.ka d.keys.length d.kc] 26) := ⟨_, rfl⟩
  have HBL : Hid (Blk W1 w.heap.size #[.int .i64 d.sort, .bool d.on, .int .i64 d.n, .string ⟨d.text.toArray⟩, .slice d.a d.list.length d.c, .slice d.ka d.keys.length d.kc] 26) := Lib.hid (by rw [hW1]; exact Blk.new rfl)
  rw [← hW1] at hf hb1
  have HF := Lib.hid hf
  have HB1 := Lib.hid hb1
  have HV := Lib.hid hv
  have HS := Lib.hid hs
  obtain ⟨z, hz⟩ : ∃ z, z = wrote d.v := ⟨_, rfl⟩
  rw [← hz]
  have HZ := Lib.hid hz
  clear hf hb1 hv hs hz
  go_enter Tryz.func11, Tryz.ntmps11
  go_upto_region 1 with (fail)
  rw [← hW1]
  clear hW1
  obtain ⟨c0, c1, c2, c3, c4, c5⟩ := HBL.out.sixT
  go_wp2_with fail
  refine HF.out.mono ?_
  clear HF
  rintro e w2 ⟨rfl, hb2⟩
  have HB2 := Lib.hid (HB1.out.trans (hb2.mono HB1.out.size))
  have HBL2 := Lib.hid (HBL.out.ext hb2)
  clear hb2 c0 c1 c2 c3 c4 c5
  obtain ⟨rg, hrg⟩ : ∃ rg, rg = right 20 d.v := ⟨_, rfl⟩
  rw [← hrg]
  have HRG := Lib.hid hrg
  clear hrg
  cases rg with
  | false =>
    have HW : Hid (z = .tuple #[.string { data := #[] }, .int .i64 21]) := Lib.hid (by rw [HZ.out]; unfold wrote; rw [if_neg (by rw [← HRG.out]; decide)])
    go_wp2
    exact bodyPost_ret (v := .tuple #[.string { data := #[] }, .int .i64 21]) (by simp [results, Tryz.results11, go_sem]) rfl ⟨by rw [HW.out], HB2.out⟩
  | true =>
    have HW : Hid (z = .tuple #[.string ⟨(textV d.v).toArray⟩, .int .i64 0]) := Lib.hid (by rw [HZ.out]; unfold wrote; rw [if_pos HRG.out.symm])
    have ht := textR_any d w2 (HV.out.ext HB2.out) (right_form HRG.out.symm) HS.out
    rw [VD.val6] at ht
    have HT := Lib.hid ht
    clear ht
    obtain ⟨c0, c1, c2, c3, c4, c5⟩ := HBL2.out.sixT
    go_wp2_with fail
    refine HT.out.mono ?_
    clear HT
    rintro e w3 ⟨rfl, hb3⟩
    have HB3 := Lib.hid (HB2.out.trans (hb3.mono HB2.out.size))
    clear hb3
    go_wp2
    exact bodyPost_ret (v := .tuple #[.string ⟨(textV d.v).toArray⟩, .int .i64 0]) (by simp [results, Tryz.results11, go_sem]) rfl ⟨by rw [HW.out], HB3.out⟩
end Go.Proofs.YtahiopjplfnlmaaGreatDoor
