/- All, the document's: what bytes hold; walked. -/
import Derived.Test.YtgfkgcnnjehmlaaDoorBegins
namespace Go.Proofs.YtgfkgcnnjehmlaaDoor
open Go Go.RowKit

/-- All's three results -/
def AllR (B : Nat) (S : List UInt8) (v : Value) (w' : World) : Prop :=
  ∃ (bs : List (List UInt8)) (l : Nat) (r : List UInt8) (a : Option Addr) (c : Nat), Fed S bs l r ∧ v = .tuple #[.slice a bs.length c, .int .i64 l, .int .i64 r.length] ∧ Own w' B 9 1 a bs.length c (bs.map strV)

set_option maxHeartbeats 1000000 in
theorem all_any (s : ByteArray) (w : World) (hs : s.size ≤ 1048576) : Calls Tryd.prog 14 #[.string s] w (Ret w (AllR w.heap.size s.data.toList)) := by
  go_enter Tryd.func14, Tryd.ntmps14
  go_wp2_with fail
  go_loopw [5, 6, 0] (fun out ls cur wq => ∃ (bs : List (List UInt8)) (l : Nat) (x : ByteArray) (a : Option Addr) (c : Nat), out = .slice a bs.length c ∧ ls = .int .i64 l ∧ cur = .string x ∧ x.size ≤ s.size ∧ l + bs.length + x.size ≤ s.size ∧
    Hid (∀ b' l' r', Fed x.data.toList b' l' r' → Fed s.data.toList (bs ++ b') (l + l') r') ∧ Hid (Own wq w.heap.size 9 1 a bs.length c (bs.map strV)) ∧ Hid (Below w.heap.size w wq)) (fun _ _ cur _ => match cur with | .string x => x.size | _ => 0)
  case atStart => exact ⟨[], 0, s, none, 0, rfl, rfl, rfl, Nat.le_refl _, by simp, fun b' l' r' h => by simpa using h, Own.nil _ _ _ _, Below.refl _ _⟩
  case round =>
    obtain ⟨bs, l, x, a, c, rfl, rfl, rfl, hx, hsum, hfed, hown, hb⟩ := hrel
    have hwz := hb.out.size
    by_cases hz : x.size = 0
    · have hz2 : ¬ (0 : Int) < x.size := by omega
      have Hz := Lib.hid hz
      clear hz
      go_wp2
      go_ret3
      refine ⟨_, rfl, hb.out, bs, l, [], a, c, ?_, rfl, hown.out⟩
      have := hfed.out [] 0 [] (by rw [data_nil Hz.out]; exact Fed.nil)
      simpa using this
    · have hz2 : (0 : Int) < x.size := by omega
      go_wp2_with fail
      refine (begins_any x wr (by omega)).mono ?_
      rintro e w1 ⟨v, rfl, hb1, how, body, n, rfl, hcase⟩
      have Hown1 := Lib.hid (hown.out.ext hb1)
      have HB1 := Lib.hid (hb.out.trans (hb1.mono hwz))
      have hxl : x.data.toList.length = x.size := rfl
      clear hown hb hb1
      rcases hcase with ⟨rfl, hbeg⟩ | ⟨rfl, hbeg⟩ | ⟨rfl, hn, hbeg⟩
      · have Hbeg := Lib.hid hbeg
        obtain ⟨y, ys, hys⟩ : ∃ y ys, x.data.toList = y :: ys := by
          cases h : x.data.toList with
          | nil => exact absurd (congrArg List.length h) hz
          | cons y ys => exact ⟨y, ys, rfl⟩
        have Hys := Lib.hid hys
        clear hys hbeg hxl
        go_wp2_with fail
        go_roundw
        case rel =>
          have e1 : (x.extract 1 x.size).data.toList = ys := by rw [Lib.extract_to_end, Hys.out]; rfl
          have e2 : (x.extract 1 x.size).size = x.size - 1 := by simp
          refine ⟨bs, l + 1, x.extract 1 x.size, a, c, rfl, by go_num, rfl, by omega, by omega, fun b' l' r' h => ?_, Hown1, HB1⟩
          have hb2 := Hbeg.out
          rw [Hys.out] at hb2
          have h2 := hfed.out b' (l' + 1) r' (by rw [Hys.out]; rw [e1] at h; exact Fed.lost hb2 h)
          rwa [Nat.add_assoc, Nat.add_comm 1 l']
        case measure => simp; omega
      · have Hbeg := Lib.hid hbeg
        clear hbeg
        go_wp2
        go_ret3
        refine ⟨_, rfl, HB1.out, bs, l, x.data.toList, a, c, ?_, rfl, Hown1.out⟩
        have := hfed.out [] 0 x.data.toList (Fed.more Hbeg.out)
        simpa using this
      · have Hbeg := Lib.hid hbeg
        have hn2 : (n : Int) ≤ x.size := by omega
        have hbl : bs.length ≤ 1048576 := by omega
        have hlen := beg_short hbeg
        rw [List.length_drop] at hlen
        clear hbeg
        go_wp2_with (at_builtin; refine wpList_append_Own (o := ⟨some 30, _, _, _, _, _⟩) rfl _ _ 22 rfl w.heap.size 9 _ 1 16 Tryd.underlying22 Tryd.infoStr rfl (by decide) a bs.length c _ rfl (by exact Hown1.out.alloc _) _ 1 1 [strV body.data.toList] rfl (Row.new1 (by simp) rfl rfl) (by simp [Value.oneCell', strV]) (by unfold maxLen; omega) (by omega) (by have := HB1.out.size; simp; omega) ?_; intro a5 c5 w5 hown5 hg5 hbk5)
        go_roundw
        case rel =>
          have e1 : (x.extract n x.size).data.toList = x.data.toList.drop n := Lib.extract_to_end _ _
          have e2 : (x.extract n x.size).size = x.size - n := by simp
          refine ⟨bs ++ [body.data.toList], l, x.extract n x.size, a5, c5, by simp, rfl, rfl, by omega, by simp; omega, fun b' l' r' h => ?_, ?_, ?_⟩
          · rw [e1] at h
            have h2 := hfed.out _ l' r' (Fed.got Hbeg.out h)
            simpa using h2
          · show Own _ _ _ _ _ _ _ _
            simpa using hown5
          · exact (HB1.out.alloc HB1.out.size _).grown hg5 (by have := HB1.out.size; simp; omega) (Hown1.out.rowBase (Nat.le_refl _))
        case measure => simp; omega
end Go.Proofs.YtgfkgcnnjehmlaaDoor
