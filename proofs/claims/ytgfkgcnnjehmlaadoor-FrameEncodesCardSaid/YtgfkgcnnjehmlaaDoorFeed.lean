/- Feed, walked. -/
import Derived.Test.YtgfkgcnnjehmlaaDoorHead
namespace Go.Proofs.YtgfkgcnnjehmlaaDoor
open Go Go.RowKit

/-- Feed's result: the bodies, and the decoder behind it -/
def FeedR (b : Nat) (S : List UInt8) (lost : Nat) (w : World) (v : Value) (w' : World) : Prop :=
  ∃ (bs : List (List UInt8)) (l : Nat) (r : ByteArray) (a : Option Addr) (c : Nat), Fed S bs l r.data.toList ∧ v = .slice a bs.length c ∧ Own w' w.heap.size 9 1 a bs.length c (bs.map strV) ∧ DecAt w' b r (lost + l) ∧ Keep b w w'

theorem Tryd.infoStr : (Tryd.prog.info? 9).map (fun i => (i.zero, i.size, i.bytes)) = some (some (.string ByteArray.empty), 1, 16) := by kernel_rfl
theorem emp_true {x : ByteArray} (h : x.size = 0) : x.toList.isEmpty = true := by
  rw [Lib.toList_data, List.isEmpty_iff, ← List.length_eq_zero_iff]; exact h
theorem emp_false {x : ByteArray} (h : ¬ x.size = 0) : x.toList.isEmpty = false := by
  rw [Bool.eq_false_iff]; intro he
  rw [Lib.toList_data, List.isEmpty_iff] at he
  exact h (congrArg List.length he)
theorem data_nil {x : ByteArray} (h : x.size = 0) : x.data.toList = [] := List.length_eq_zero_iff.1 h

set_option maxHeartbeats 1000000 in
theorem feed_any (b : Nat) (s t : ByteArray) (lost : Nat) (w : World) (hG : Glob w) (hb8 : 3 ≤ b) (hd : DecAt w b s lost) (hs : s.size + t.size ≤ 1048576) (hl : lost ≤ 1048576) :
    Calls Tryd.prog 13 #[.pointer (some ⟨b, 0, none⟩), .string t] w (fun e w' => ∃ v, e = .returned v ∧ FeedR b (s.data.toList ++ t.data.toList) lost w v w') := by
  have c0 := hd.cell 0
  have c1 := hd.cell 1
  simp only [List.getElem?_toArray, List.getElem?_cons_zero, List.getElem?_cons_succ] at c0 c1
  have hbw : b < w.heap.size := hd.lt
  have HG := Lib.hid hG
  have HD := Lib.hid hd
  clear hG hd
  go_enter Tryd.func13, Tryd.ntmps13
  go_wp2_with fail
  clear c0 c1
  go_loopw [5, 6] (fun out cur wq => ∃ (bs : List (List UInt8)) (l : Nat) (x : ByteArray) (a : Option Addr) (c : Nat), out = .slice a bs.length c ∧ cur = .string x ∧ x.size ≤ s.size + t.size ∧ l + bs.length + x.size ≤ s.size + t.size ∧
    Hid (∀ b' l' r', Fed x.data.toList b' l' r' → Fed (s.data.toList ++ t.data.toList) (bs ++ b') (l + l') r') ∧ Hid (Own wq w.heap.size 9 1 a bs.length c (bs.map strV)) ∧ Hid (DecAt wq b s (lost + l)) ∧ Hid (Keep b w wq)) (fun _ cur _ => match cur with | .string x => x.size | _ => 0)
  case atStart => exact ⟨[], 0, s ++ t, none, 0, rfl, rfl, by simp, by simp, fun b' l' r' h => by simpa using h, Own.nil _ _ _ _, HD, Keep.refl _ _⟩
  case round =>
    obtain ⟨bs, l, x, a, c, rfl, rfl, hx, hsum, hfed, hown, hdec, hkeep⟩ := hrel
    have hwz := hkeep.out.size
    have hGr : Glob wr := HG.out.below (hkeep.out.below (Below.refl _ _) hb8 HG.out.size) (Nat.le_refl _)
    have HGr := Lib.hid hGr
    clear hGr
    by_cases hz : x.size = 0
    · have hE := emp_true hz
      have d1 := hdec.out.cell 1
      have d0 := hdec.out.cell 0
      have g0 := hdec.out.free 0
      simp only [List.getElem?_toArray, List.getElem?_cons_zero, List.getElem?_cons_succ] at d0 d1
      go_wp2_with fail
      refine (clone_any x wr (by omega)).mono ?_
      rintro e w1 ⟨v, rfl, hb1, rfl⟩
      have Hown1 := Lib.hid (hown.out.ext hb1)
      have Hd1 := Lib.hid (hdec.out.ext hb1)
      have Hk1 := Lib.hid (hkeep.out.ext hb1)
      have d0 := Hd1.out.cell 0
      have g0 := Hd1.out.free 0
      simp only [List.getElem?_toArray, List.getElem?_cons_zero] at d0
      clear hown hdec hkeep hb1 HGr d1
      go_wp2_with fail
      go_ret
      refine ⟨_, rfl, bs, l, x, a, c, ?_, rfl, Hown1.out.setCell_row (fun he => Hown1.out.apart hbw he.symm) _, ?_, Hk1.out.set 0 _⟩
      · have := hfed.out [] 0 x.data.toList (by rw [data_nil hz]; exact Fed.nil)
        simpa using this
      · exact Hd1.out.set 0 (.string x)
    · have hE := emp_false hz
      go_wp2_with fail
      refine (head_any x wr HGr.out (by omega)).mono ?_
      rintro e w1 ⟨v, rfl, hb1, n, r, ok, rfl, hr, hcase⟩
      have Hown1 := Lib.hid (hown.out.ext hb1)
      have Hd1 := Lib.hid (hdec.out.ext hb1)
      have Hk1 := Lib.hid (hkeep.out.ext hb1)
      have d1 := Hd1.out.cell 1
      have d0 := Hd1.out.cell 0
      have g0 := Hd1.out.free 0
      have g1 := Hd1.out.free 1
      simp only [List.getElem?_toArray, List.getElem?_cons_zero, List.getElem?_cons_succ] at d0 d1
      have hb1l : b < w1.heap.size := Hd1.out.lt
      clear hown hdec hkeep hb1 HGr
      rcases hcase with ⟨rfl, hbeg⟩ | ⟨rfl, rfl, hbeg⟩ | ⟨rfl, hn0, hn1, hbeg⟩
      · have Hbeg := Lib.hid hbeg
        clear hbeg
        obtain ⟨y, ys, hys⟩ : ∃ y ys, x.data.toList = y :: ys := by
          cases h : x.data.toList with
          | nil => exact absurd (by have := congrArg List.length h; simpa using this) hz
          | cons y ys => exact ⟨y, ys, rfl⟩
        have Hys := Lib.hid hys
        clear hys
        go_wp2_with fail
        go_roundw
        case rel =>
          have e1 : (x.extract 1 x.size).data.toList = ys := by rw [Lib.extract_to_end, Hys.out]; rfl
          have e2 : (x.extract 1 x.size).size = x.size - 1 := by simp
          refine ⟨bs, l + 1, x.extract 1 x.size, a, c, rfl, rfl, by omega, by omega, fun b' l' r' h => ?_, ?_, ?_, ?_⟩
          · have hb2 := Hbeg.out
            rw [Hys.out] at hb2
            have h2 := hfed.out b' (l' + 1) r' (by rw [Hys.out]; rw [e1] at h; exact Fed.lost hb2 h)
            rwa [Nat.add_assoc, Nat.add_comm 1 l']
          · exact Hown1.out.setCell_row (fun he => Hown1.out.apart hbw he.symm) _
          · have := Hd1.out.set 1 (.int .i64 ((lost + (l + 1) : Nat) : Int))
            have e3 : ((lost : Int) + l + 1) = ((lost + (l + 1) : Nat) : Int) := by omega
            rw [e3]; exact this
          · exact Hk1.out.set 1 _
        case measure => simp; omega
      · have Hbeg := Lib.hid hbeg
        clear hbeg
        go_wp2_with fail
        refine (clone_any x w1 (by omega)).mono ?_
        rintro e w2 ⟨v, rfl, hb2, rfl⟩
        have Hown1 := Lib.hid (Hown1.out.ext hb2)
        have Hd1 := Lib.hid (Hd1.out.ext hb2)
        have Hk1 := Lib.hid (Hk1.out.ext hb2)
        have d0 := Hd1.out.cell 0
        have g0 := Hd1.out.free 0
        simp only [List.getElem?_toArray, List.getElem?_cons_zero] at d0
        clear hb2 d1 g1
        go_wp2_with fail
        go_ret
        refine ⟨_, rfl, bs, l, x, a, c, ?_, rfl, Hown1.out.setCell_row (fun he => Hown1.out.apart hbw he.symm) _, ?_, Hk1.out.set 0 _⟩
        · have := hfed.out [] 0 x.data.toList (Fed.more Hbeg.out)
          simpa using this
        · exact Hd1.out.set 0 (.string x)
      · by_cases hrn : r.size < n.toNat
        · rw [if_pos hrn] at hbeg
          have Hbeg := Lib.hid hbeg
          have hrn2 : (r.size : Int) < n := by omega
          clear hbeg
          go_wp2_with fail
          refine (clone_any x w1 (by omega)).mono ?_
          rintro e w2 ⟨v, rfl, hb2, rfl⟩
          have Hown1 := Lib.hid (Hown1.out.ext hb2)
          have Hd1 := Lib.hid (Hd1.out.ext hb2)
          have Hk1 := Lib.hid (Hk1.out.ext hb2)
          have d0 := Hd1.out.cell 0
          have g0 := Hd1.out.free 0
          simp only [List.getElem?_toArray, List.getElem?_cons_zero] at d0
          clear hb2 d1 g1
          go_wp2_with fail
          go_ret
          refine ⟨_, rfl, bs, l, x, a, c, ?_, rfl, Hown1.out.setCell_row (fun he => Hown1.out.apart hbw he.symm) _, ?_, Hk1.out.set 0 _⟩
          · have := hfed.out [] 0 x.data.toList (Fed.more Hbeg.out)
            simpa using this
          · exact Hd1.out.set 0 (.string x)
        · rw [if_neg hrn] at hbeg
          have Hbeg := Lib.hid hbeg
          have hrn2 : ¬ (r.size : Int) < n := by omega
          clear hbeg
          have hstr : Value.string (r.extract 0 n.toNat) = strV (r.data.toList.take n.toNat) := by rw [Lib.extract_eq]; simp [strV]
          have Hstr := Lib.hid hstr
          clear hstr
          have hbl : bs.length ≤ 1048576 := by omega
          go_wp2_with (at_builtin; refine wpList_append_Own (o := ⟨some 50, _, _, _, _, _⟩) rfl _ _ 22 rfl w.heap.size 9 _ 1 16 Tryd.underlying22 Tryd.infoStr rfl (by decide) a bs.length c _ rfl (by exact Hown1.out.alloc _) _ 1 1 [strV (r.data.toList.take n.toNat)] rfl (Row.new1 (by simp) rfl (by rw [← Hstr.out])) (by simp [Value.oneCell', strV]) (by unfold maxLen; omega) (by omega) (by have := Hk1.out.size; simp; omega) ?_; intro a5 c5 w5 hown5 hg5 hbk5)
          go_roundw
          case rel =>
            have e1 : (r.extract n.toNat r.size).data.toList = r.data.toList.drop n.toNat := Lib.extract_to_end _ _
            have e2 : (r.extract n.toNat r.size).size = r.size - n.toNat := by simp
            have hlen := beg_short Hbeg.out
            rw [← e1] at hlen
            have hlen2 : (r.extract n.toNat r.size).size < x.size := hlen
            have hob : rowOf a c ≠ some b := fun he => Hown1.out.apart hbw he.symm
            refine ⟨bs ++ [r.data.toList.take n.toNat], l, r.extract n.toNat r.size, a5, c5, by simp, rfl, by omega, by simp; omega, fun b' l' r' h => ?_, ?_, ?_, ?_⟩
            · rw [e1] at h
              have h2 := hfed.out _ l' r' (Fed.got Hbeg.out h)
              simpa using h2
            · show Own _ _ _ _ _ _ _ _
              simpa using hown5
            · exact (Hd1.out.alloc _).grown hg5 hob.symm
            · exact (Hk1.out.alloc _).grown hg5 (Hown1.out.rowBase (Nat.le_refl _))
          case measure =>
            have hlen := beg_short Hbeg.out
            have e1 : (r.extract n.toNat r.size).data.toList = r.data.toList.drop n.toNat := Lib.extract_to_end _ _
            rw [← e1] at hlen
            exact hlen
end Go.Proofs.YtgfkgcnnjehmlaaDoor
