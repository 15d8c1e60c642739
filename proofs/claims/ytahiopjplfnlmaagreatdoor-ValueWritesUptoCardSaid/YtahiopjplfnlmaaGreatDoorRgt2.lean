/- What is right, of a value's list: walked. -/
import Derived.Test.YtahiopjplfnlmaaGreatDoorRgt
import Derived.Test.YtahiopjplfnlmaaGreatDoorGetP
namespace Go.Proofs.YtahiopjplfnlmaaGreatDoor
open Go Go.RowKit

/-- right m is told of any value -/
def RightAt (m : Nat) : Prop := ∀ (d : VD) (w : World), Glob w → ValAt w (fun _ => True) d → sizeV d.v ≤ 1048576 → Calls Tryz.prog 24 #[d.val, .int .i64 (m : Nat)] w (BoE w (right m d.v))
theorem VD.val6 (d : VD) : d.val = .agg #[.int .i64 d.sort, .bool d.on, .int .i64 d.n, .string ⟨d.text.toArray⟩, .slice d.a d.list.length d.c, .slice d.ka d.keys.length d.kc] := VD.val_eq' d
theorem BoE.from {w w' : World} {b : Bool} {e : Ending} {W : World} (h : BoE w' b e W) (hb : Below w.heap.size w w') : BoE w b e W := ⟨h.1, hb.trans (h.2.mono hb.size)⟩
set_option maxHeartbeats 1000000 in
theorem right1_any (m : Nat) (IH : Hid (RightAt m)) (d : VD) (w : World) (g : Nat) (n : Int) (hg : Blk w g #[.int .i64 n] 3) (hn : n = (m : Int) + 1) (hm : m ≤ 20) (hG : Glob w) (hv : ValAt w (fun _ => True) d) (hs : sizeV d.v ≤ 1048576) :
    Calls Tryz.prog 40 #[d.val, .pointer (some ⟨g, 0, none⟩)] w (BoE w (!(right m d.v))) := by
  obtain ⟨W, hW⟩ : ∃ W, W = w.alloc (.cells #[.int .i64 d.sort, .bool d.on, .int .i64 d.n, .string ⟨d.text.toArray⟩, .slice d.a d.list.length d.c, .slice d.ka d.keys.length d.kc] 34) := ⟨_, rfl⟩
  have hb : Below w.heap.size w W := by rw [hW]; exact below_a1 _ _
  have hc := IH.out d W (hG.ext hb) (hv.ext hb) hs
  have HC := Lib.hid hc
  have HB := Lib.hid hb
  have g0 := (hg.ext hb).cell 0
  rw [hW] at g0
  simp only [List.getElem?_toArray, List.getElem?_cons_zero] at g0
  have hn1 : 1 ≤ n := by omega
  have hn2 : n ≤ 21 := by omega
  have hn3 : n - 1 = (m : Int) := by omega
  rw [VD.val6] at HC ⊢
  clear hc hb hv hG
  go_enter Tryz.func40, Tryz.ntmps40
  go_wp2_with fail
  rw [← hW]
  refine HC.out.mono ?_
  rintro e w2 ⟨rfl, hb2⟩
  have HB2 := Lib.hid hb2
  clear hb2
  go_wp2
  go_ret
  exact ⟨rfl, HB.out.trans (HB2.out.mono HB.out.size)⟩
set_option maxHeartbeats 1000000 in
theorem indexfunc_any (a : Option Addr) (c : Nat) (l : List VD) (w : World) (cap : Array Value) (hl : Row w 6 a l.length (l.flatMap VD.cells)) (hn : l.length ≤ 1048576) (p : VD → Bool)
    (hc : ∀ W x, Below w.heap.size w W → x ∈ l → Calls Tryz.prog 40 (#[x.val] ++ cap) W (BoE W (p x))) :
    Calls Tryz.prog 53 #[.slice a l.length c, .func (.func 40) #[] cap] w (fun e w' => (∃ i : Int, e = .returned (.int .i64 i) ∧ (0 ≤ i ↔ ∃ x ∈ l, p x = true)) ∧ Below w.heap.size w w') := by
  have HL := Lib.hid hl
  have HC := Lib.hid hc
  clear hl hc
  go_enter Tryz.func53, Tryz.ntmps53
  go_wp2_with fail
  go_loopw [4, 8] (fun _ i wr => ∃ k : Nat, k ≤ l.length ∧ i = .int .i64 k ∧ Hid (Below w.heap.size w wr ∧ ∀ x ∈ l.take k, p x = false)) (fun _ i _ => l.length - (intOf i).toNat)
  case atStart => exact ⟨0, Nat.zero_le _, rfl, Lib.hid ⟨Below.refl _ _, by simp⟩⟩
  case round =>
    obtain ⟨k, hk, rfl, hq⟩ := hrel
    by_cases hlt : k < l.length
    · obtain ⟨x, hx⟩ := get_some hlt
      have hv := val_at (HL.out.congr fun g h0 hg hlt => hq.out.1.block g hlt) hx
      obtain ⟨b, off, rfl, v0, v1, v2, v3, v4, v5⟩ := hv
      have Hx := Lib.hid hx
      have hcx := HC.out wr x hq.out.1 (List.mem_of_getElem? hx)
      rw [VD.val6] at hcx
      unfold strV at v3
      clear hx
      go_wp2_with fail
      have HP := Lib.hid hcx
      clear hcx v0 v1 v2 v3 v4 v5
      refine HP.out.mono ?_
      rintro e w2 ⟨rfl, hb2⟩
      have HB2 := Lib.hid (hq.out.1.trans (hb2.mono hq.out.1.size))
      clear hb2 HP
      cases hp : p x with
      | true =>
        have Hp := Lib.hid hp
        clear hp
        go_wp2
        go_ret
        exact ⟨⟨k, rfl, by
          constructor
          · intro _; exact ⟨x, List.mem_of_getElem? Hx.out, Hp.out⟩
          · intro _; omega⟩, HB2.out⟩
      | false =>
        have Hp : Hid (∀ y ∈ l.take (k + 1), p y = false) := Lib.hid fun y hy => by
          rw [take_one Hx.out, List.mem_append, List.mem_singleton] at hy
          rcases hy with hy | rfl
          · exact hq.out.2 y hy
          · exact hp
        clear hp
        go_wp2
        go_roundw
        case rel => exact ⟨k + 1, by omega, by go_num, Lib.hid ⟨HB2.out, Hp.out⟩⟩
        case measure => simp [intOf]; omega
    · obtain rfl : k = l.length := by omega
      go_wp2
      go_ret
      exact ⟨⟨-1, rfl, by
        have h := hq.out.2
        rw [List.take_length] at h
        constructor
        · intro h; omega
        · rintro ⟨x, hx, hp⟩; rw [h x hx] at hp; cases hp⟩, hq.out.1⟩

set_option maxHeartbeats 1000000 in
theorem containsfunc_any (a : Option Addr) (c : Nat) (l : List VD) (w : World) (cap : Array Value) (hl : Row w 6 a l.length (l.flatMap VD.cells)) (hn : l.length ≤ 1048576) (p : VD → Bool)
    (hc : ∀ W x, Below w.heap.size w W → x ∈ l → Calls Tryz.prog 40 (#[x.val] ++ cap) W (BoE W (p x))) :
    Calls Tryz.prog 39 #[.slice a l.length c, .func (.func 40) #[] cap] w (BoE w (l.any p)) := by
  have h1 := indexfunc_any a c l w cap hl hn p hc
  have H1 := Lib.hid h1
  clear h1 hl hc
  go_enter Tryz.func39, Tryz.ntmps39
  go_wp2_with fail
  refine H1.out.mono ?_
  rintro e w2 ⟨⟨i, rfl, hi⟩, hb2⟩
  have HB := Lib.hid hb2
  have HI := Lib.hid hi
  clear hb2 hi
  go_wp2
  go_ret
  refine ⟨?_, HB.out⟩
  have h := HI.out
  rw [show decide (0 ≤ i) = l.any p by rw [Bool.eq_iff_iff, decide_eq_true_eq, h, List.any_eq_true]]
  rfl
end Go.Proofs.YtahiopjplfnlmaaGreatDoor
