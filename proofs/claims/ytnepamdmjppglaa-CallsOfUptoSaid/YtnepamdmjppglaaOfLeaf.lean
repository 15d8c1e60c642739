/- calls.Of at a call without kids, walked. -/
import Derived.Test.YtnepamdmjppglaaLeaf
namespace Go.Proofs.Ytnepamdmjppglaa
open Go Go.RowKit Go.Shelf Go.Sort

def callNm : Nm := [99, 97, 108, 108]
set_option maxHeartbeats 1000000 in
set_option maxRecDepth 20000 in
theorem of_leaf (tx : Nm) (w : World) : Calls Try.prog 10 #[leafV callNm tx] w (Ret w fun v _ => ∃ a c, v = .slice a 1 c) := by
  have hall := all_leaf callNm tx (w.alloc (.cells #[.string ⟨callNm.toArray⟩, .string ⟨tx.toArray⟩, .int .i64 0, .int .i64 0, .slice none 0 0] 24))
  unfold leafV at hall ⊢
  go_enter Try.func10, Try.ntmps10
  go_wp2_with fail
  refine hall.mono ?_
  clear hall
  rintro e w1 ⟨_, rfl, hb1, a1, c1, rfl, hrow⟩
  have Hrow := Lib.hid hrow
  have Hb1 := Lib.hid ((below_a1 w _).trans (hb1.mono (by simp)))
  clear hrow hb1
  obtain ⟨b0, o0, ha, hc⟩ := Hrow.out.2 (by decide)
  have Ha : Hid (a1 = some ⟨b0, o0, none⟩) := Lib.hid ha
  subst ha
  go_wp2_with fail
  go_loopw [3, 9] (fun o i wr => ∃ (k : Nat) (a : Option Addr) (c : Nat), k ≤ 1 ∧ i = .int .i64 k ∧ o = .slice a k c ∧ Hid (Own wr w1.heap.size 9 1 a k c (if k = 0 then [] else [strV tx])) ∧ Hid (Below w1.heap.size w1 wr)) (fun _ i _ => 1 - (intOf i).toNat)
  case atStart => exact ⟨0, none, 0, by omega, rfl, rfl, Lib.hid (by simpa using Own.nil _ _ _ _), Lib.hid (Below.refl _ _)⟩
  case round =>
    obtain ⟨k, a, c, hk, rfl, rfl, hown, hb⟩ := hrel
    have hwb := Hb1.out.size
    have hwb2 := hb.out.size
    by_cases hk0 : k = 0
    · subst hk0
      have k0 : wr.cell? ⟨b0, o0, none⟩ = some (.string ⟨callNm.toArray⟩) := by have := below_ext hb.out (hc 0 (by decide)); simpa using this
      have k1 : wr.cell? ⟨b0, o0 + 1, none⟩ = some (.string ⟨tx.toArray⟩) := below_ext hb.out (hc 1 (by decide))
      have k2 : wr.cell? ⟨b0, o0 + 2, none⟩ = some (.int .i64 0) := below_ext hb.out (hc 2 (by decide))
      have k3 : wr.cell? ⟨b0, o0 + 3, none⟩ = some (.int .i64 0) := below_ext hb.out (hc 3 (by decide))
      have k4 : wr.cell? ⟨b0, o0 + 4, none⟩ = some (.slice none 0 0) := below_ext hb.out (hc 4 (by decide))
      have f1 : (callNm == [99, 97, 108, 108]) = true := by decide
      have Ho : Hid (Own wr w1.heap.size 9 1 a 0 c []) := Lib.hid (by have := hown.out; simpa using this)
      clear hown
      go_wp2_with (at_builtin; refine wpList_append_Own rfl _ _ 28 rfl w1.heap.size 9 _ 1 16 Try.underlying28 infoStr rfl (by decide) a 0 c _ rfl (by exact (Ho.out.alloc _).alloc _) _ 1 1 [strV tx] rfl (Row.new1 (by simp) rfl rfl) (by intro u hu; simp at hu; subst hu; rfl) (by unfold maxLen; omega) (by omega) (by simp; omega) ?_; intro a5 c5 w5 hown5 hg5 hbk5)
      refine ⟨⟨1, a5, c5, Nat.le_refl _, rfl, rfl, Lib.hid (by simpa using hown5), Lib.hid ?_⟩, by decide⟩
      exact ((hb.out.alloc hwb2 _).alloc (by simp; omega) _).grown hg5 (by simp; omega) (fun j hj => ((Ho.out.alloc (.cells #[.string ⟨callNm.toArray⟩, .string ⟨tx.toArray⟩, .int .i64 0, .int .i64 0, .slice none 0 0] 24)).alloc (.cells #[.string ⟨tx.toArray⟩] 9)).rowBase (Nat.le_refl _) j hj)
    · obtain rfl : k = 1 := by omega
      have ho : Own wr w1.heap.size 9 1 a [tx].length c ([tx].map strV) := by have := hown.out; simpa using this
      have hs := sort_any a c w1.heap.size [tx] wr ho (by simp)
      rw [(List.perm_singleton.1 (srt_perm [tx]))] at hs
      have hrb := ho.rowBase (Nat.le_refl _)
      have Hs := Lib.hid hs
      clear hs hown ho
      go_wp2_with fail
      refine Hs.out.mono ?_
      clear Hs
      rintro e w5 ⟨rfl, ho5, hg5⟩
      obtain ⟨g, off, rfl⟩ := ho5.addr (by have := ho5.le; simp at this; omega)
      have hcap : 1 ≤ c := by have := ho5.le; simpa using this
      have hcm := Try.slices_Compact_string g off c [tx] w5 (own_holds ho5) (by simp) (by simpa using hcap)
      have hc1 : (Lib.compact [tx]).length = 1 := by rfl
      rw [hc1] at hcm
      have Hcm := Lib.hid hcm
      have Hb5 := Lib.hid ((Hb1.out.trans (hb.out.mono hwb)).grown hg5 (by omega) (fun j hj => by have := hrb j hj; omega))
      have hgb := ho5.base (g := g) rfl
      clear hcm hg5 hc1 ho5 hrb
      go_wp2_with fail
      refine Hcm.out.mono ?_
      rintro e w6 ⟨rfl, q, rfl⟩
      go_wp2
      go_ret
      refine ⟨_, rfl, ?_, _, _, rfl⟩
      have hk := sortWorld_grown encStr w5 g off q (Lib.compact [tx] ++ List.replicate (1 - 1) []).toArray #[]
      have hk2 : w5.grownBy (putRow encStr (Sort.ahead w5 q) g off (Lib.compact [tx] ++ List.replicate (1 - 1) []).toArray) (some g) := by
        have e : sortWorld encStr w5 g off q (Lib.compact [tx] ++ List.replicate (1 - 1) []).toArray #[] = putRow encStr (Sort.ahead w5 q) g off (Lib.compact [tx] ++ List.replicate (1 - 1) []).toArray := grow_empty _
        rw [← e]; exact hk
      exact Hb5.out.grown hk2 (Hb5.out.size) (fun j hj => by cases hj; omega)
end Go.Proofs.Ytnepamdmjppglaa
