/- Keys that may be: walked. -/
import Derived.Test.YtahiopjplfnlmaaGreatDoorMapW
namespace Go.Proofs.YtahiopjplfnlmaaGreatDoor
open Go Go.RowKit

theorem distinct_iff : ∀ ks : List Nm, distinct ks = true ↔ (∀ x ∈ ks, Lib.validD x = true) ∧ ks.Nodup
  | [] => by simp [distinct]
  | k :: l => by
    rw [distinct, Bool.and_eq_true, Bool.and_eq_true, distinct_iff l, List.nodup_cons]
    simp only [List.forall_mem_cons, Bool.not_eq_true', List.contains_eq_mem, decide_eq_false_iff_not]
    constructor
    · rintro ⟨⟨h1, h2⟩, h3, h4⟩; exact ⟨⟨h1, h3⟩, h2, h4⟩
    · rintro ⟨⟨h1, h3⟩, h2, h4⟩; exact ⟨⟨h1, h2⟩, h3, h4⟩
theorem take_one {α : Type} {l : List α} {k : Nat} {x : α} (h : l[k]? = some x) : l.take (k + 1) = l.take k ++ [x] := by
  rw [List.take_add_one, h]; rfl
/-- one where it is, else none -/
def one (ks : List Nm) (x : Nm) : Nat := if x ∈ ks then 1 else 0
set_option maxHeartbeats 2000000 in
theorem distinct_any (ka : Option Addr) (kc : Nat) (ks : List Nm) (w : World) (hG : Glob w) (hk : Row w 1 ka ks.length (ks.map strV)) (hl : ks.length ≤ 1048576) (hx : ∀ x ∈ ks, x.length ≤ 1048576) :
    Calls Tryz.prog 38 #[.slice ka ks.length kc] w (Ret w (IsB (distinct ks = true))) := by
  have HK := Lib.hid hk
  have HG := Lib.hid hG
  have HX := Lib.hid hx
  have hmm := @run_makeMap Tryz.prog
  clear hk hG hx
  go_enter Tryz.func38, Tryz.ntmps38
  go_wp2_with fail
  go_loopw [2, 9] (fun _ i wr => ∃ k : Nat, k ≤ ks.length ∧ i = .int .i64 k ∧ Hid (Below w.heap.size w wr) ∧ Hid (IM wr w.heap.size (ks.take k) (one (ks.take k))) ∧ Hid ((∀ x ∈ ks.take k, Lib.validD x = true) ∧ (ks.take k).Nodup)) (fun _ i _ => ks.length - (intOf i).toNat)
  case atStart => exact ⟨0, Nat.zero_le _, rfl, Lib.hid (below_a1 _ _), Lib.hid (IM.im_f (m := fun _ => 0) (by intro x; simp [one]) (SMap.made w _)), Lib.hid ⟨by simp, by simp⟩⟩
  case round =>
    obtain ⟨k, hk, rfl, hb, hm, hn⟩ := hrel
    by_cases hlt : k < ks.length
    · obtain ⟨x, hx⟩ := get_some hlt
      obtain ⟨b, off, rfl, v1⟩ := (HK.out.ext hb.out).elem1 hx
      have u1 : wr.cell? ⟨b, off + k, none⟩ = some (.string ⟨x.toArray⟩) := v1
      have hxm : x ∈ ks := List.mem_of_getElem? hx
      have hxl := HX.out x hxm
      have Hxl : Hid (x.length ≤ maxLen) := Lib.hid (by unfold maxLen; omega)
      have Hkl : Hid ((ks.take k).length < maxLen) := Lib.hid (by rw [List.length_take]; unfold maxLen; omega)
      have Hx := Lib.hid hx
      have htk := take_one hx
      have Htk := Lib.hid htk
      have hws := hb.out.size
      clear hx v1 htk
      by_cases hin : x ∈ ks.take k
      · have Hin := Lib.hid hin
        have Hd : Hid (distinct ks ≠ true) := Lib.hid fun h => by
          have h2 := ((distinct_iff ks).1 h).2
          have h3 := h2.sublist (List.take_sublist (k + 1) ks)
          rw [Htk.out, List.nodup_append] at h3
          exact h3.2.2 x Hin.out x (by simp) rfl
        have tok1 : True := trivial
        clear hin
        go_wp2_with (first
          | (at_lookup; have _t := tok1; refine wpList_lookI rfl _ _ rfl (by exact hm.out) Hxl.out rfl rfl 1 (by unfold one; rw [if_pos Hin.out]) ?_; clear tok1)
          | (at_mapUpdate; refine wpList_storeI rfl _ _ _ rfl (by exact hm.out) Hxl.out Hkl.out rfl rfl 2 rfl ?_; intro w1 hs1 hg1 hz1; have Hs1 := Lib.hid hs1; have Hb1 := Lib.hid (hb.out.grown hg1 hws (fun j hj => by cases hj; exact Nat.le_refl _)); clear hs1 hg1 hz1)
          | (at_lookup; refine wpList_lookI rfl _ _ rfl (by exact Hs1.out) Hxl.out rfl rfl 2 (by rw [upd_same]) ?_))
        go_wp2
        go_ret
        exact ⟨_, rfl, Hb1.out, isB_false Hd.out⟩
      · have Hin := Lib.hid hin
        have Hone : Hid (∀ y, upd (one (ks.take k)) x 1 y = one (ks.take (k + 1)) y) := Lib.hid fun y => by
          rw [Htk.out]
          by_cases hy : y = x
          · subst hy; rw [upd_same]; simp [one]
          · rw [upd_other _ _ hy]; simp [one, hy]
        have Hadd : Hid (addK (ks.take k) x = ks.take (k + 1)) := Lib.hid (by unfold addK; rw [if_neg Hin.out, Htk.out])
        have tok1 : True := trivial
        clear hin
        go_wp2_with (first
          | (at_lookup; have _t := tok1; refine wpList_lookI rfl _ _ rfl (by exact hm.out) Hxl.out rfl rfl 0 (by unfold one; rw [if_neg Hin.out]) ?_; clear tok1)
          | (at_mapUpdate; refine wpList_storeI rfl _ _ _ rfl (by exact hm.out) Hxl.out Hkl.out rfl rfl 1 rfl ?_; intro w1 hs1 hg1 hz1; have Hs1 := Lib.hid (by have h := IM.im_f Hone.out hs1; rw [Hadd.out] at h; exact h); have Hb1 := Lib.hid (hb.out.grown hg1 hws (fun j hj => by cases hj; exact Nat.le_refl _)); have hz := hz1; clear hs1 hg1 hz1)
          | (at_lookup; refine wpList_lookI rfl _ _ rfl (by exact Hs1.out) Hxl.out rfl rfl 1 (by rw [Htk.out]; simp [one]) ?_))
        refine (utf_any x w1 (HG.out.ext Hb1.out) (by omega)).mono ?_
        rintro e w2 ⟨rfl, hb2⟩
        have Hb2 := Lib.hid (Hb1.out.trans (hb2.mono (by omega)))
        have Hs2 : Hid (IM w2 w.heap.size (ks.take (k + 1)) (one (ks.take (k + 1)))) := Lib.hid (Hs1.out.ext hb2)
        clear hb2 hz
        cases hv : Lib.validD x with
        | false =>
          have Hd : Hid (distinct ks ≠ true) := Lib.hid fun h => by
            have h2 := ((distinct_iff ks).1 h).1 x hxm
            rw [hv] at h2; cases h2
          clear hv
          go_wp2
          go_ret
          exact ⟨_, rfl, Hb2.out, isB_false Hd.out⟩
        | true =>
          have Hn2 : Hid ((∀ x ∈ ks.take (k + 1), Lib.validD x = true) ∧ (ks.take (k + 1)).Nodup) := Lib.hid (by
            rw [Htk.out]
            refine ⟨fun y hy => ?_, ?_⟩
            · rw [List.mem_append, List.mem_singleton] at hy
              rcases hy with hy | rfl
              · exact hn.out.1 y hy
              · exact hv
            · rw [List.nodup_append]
              exact ⟨hn.out.2, by simp, fun a ha c hc => by rw [List.mem_singleton] at hc; subst hc; exact fun e => Hin.out (e ▸ ha)⟩)
          clear hv
          go_wp2
          go_roundw
          case rel => exact ⟨k + 1, by omega, by go_num, Hb2, Hs2, Hn2⟩
          case measure => simp [intOf]; omega
    · obtain rfl : k = ks.length := by omega
      have hd : distinct ks = true := (distinct_iff ks).2 (by have := hn.out; rw [List.take_length] at this; exact this)
      go_wp2
      go_ret
      exact ⟨_, rfl, hb.out, isB_true hd⟩
end Go.Proofs.YtahiopjplfnlmaaGreatDoor
