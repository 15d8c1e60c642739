/- Write: walked. -/
import Derived.Test.YtahiopjplfnlmaaGreatDoorTxt3
namespace Go.Proofs.YtahiopjplfnlmaaGreatDoor
open Go Go.RowKit

theorem right_form {v : V} (h : right 20 v = true) : formed v = true := by rw [right_formed, Bool.and_eq_true] at h; exact h.1
/-- what Write answers -/
def wrote (v : V) : Value := if right 20 v = true then .tuple #[.string ⟨(textV v).toArray⟩, .int .i64 0] else .tuple #[.string { data := #[] }, .int .i64 21]
set_option maxHeartbeats 1000000 in
theorem vwrite_any (d : VD) (w : World) (hG : Glob w) (hv : ValAt w (fun _ => True) d) (hs : sizeV d.v ≤ 1048576) : Calls Tryz.prog 9 #[d.val] w (fun e w' => e = .returned (wrote d.v) ∧ Below w.heap.size w w') := by
  obtain ⟨W0, hW0⟩ : ∃ W0, W0 = w.alloc (.cells #[.int .i64 d.sort, .bool d.on, .int .i64 d.n, .string ⟨d.text.toArray⟩, .slice d.a d.list.length d.c, .slice d.ka d.keys.length d.kc] 34) := ⟨_, rfl⟩
  have hb : Below w.heap.size w W0 := by rw [hW0]; exact below_a1 _ _
  have hbl : Blk W0 w.heap.size #[.int .i64 d.sort, .bool d.on, .int .i64 d.n, .string ⟨d.text.toArray⟩, .slice d.a d.list.length d.c, .slice d.ka d.keys.length d.kc] 34 := by rw [hW0]; exact Blk.new rfl
  have h1 := vright_any d W0 (hG.ext hb) (hv.ext hb) hs
  rw [VD.val6] at h1 ⊢
  have H1 := Lib.hid h1
  have HB := Lib.hid hb
  have HBL := Lib.hid hbl
  have HG := Lib.hid hG
  have HV := Lib.hid hv
  clear h1 hb hG hv hbl
  go_enter Tryz.func9, Tryz.ntmps9
  go_wp2_with fail
  rw [← hW0]
  clear hW0
  refine H1.out.mono ?_
  rintro e W1 ⟨rfl, hb1⟩
  have HB1 := Lib.hid (HB.out.trans (hb1.mono HB.out.size))
  obtain ⟨c0, c1, c2, c3, c4, c5⟩ := (HBL.out.ext hb1).six
  clear hb1 H1
  cases hr : right 20 d.v with
  | false =>
    have HT : Hid (wrote d.v = .tuple #[.string { data := #[] }, .int .i64 21]) := Lib.hid (by unfold wrote; rw [hr]; rfl)
    clear hr
    go_wp2
    exact bodyPost_ret (by simp [results, Tryz.results9, go_sem]; rfl) rfl ⟨by rw [HT.out], HB1.out⟩
  | true =>
    have HT : Hid (wrote d.v = .tuple #[.string ⟨(textV d.v).toArray⟩, .int .i64 0]) := Lib.hid (by unfold wrote; rw [hr]; rfl)
    have h2 := text_any d W1 (HG.out.ext HB1.out) (HV.out.ext HB1.out) (right_form hr) hs
    rw [VD.val6] at h2
    have H2 := Lib.hid h2
    clear h2 hr
    go_wp2_with fail
    refine H2.out.mono ?_
    rintro e W2 ⟨rfl, hb2⟩
    have HB2 := Lib.hid (HB1.out.trans (hb2.mono HB1.out.size))
    clear hb2 H2
    go_wp2
    exact bodyPost_ret (by simp [results, Tryz.results9, go_sem]; rfl) rfl ⟨by rw [HT.out], HB2.out⟩

/-- where a name stands first, or -1 -/
def indexI (x : Nm) (ks : List Nm) : Int := match indexK x ks with | some i => (i : Int) | none => -1
theorem indexI_some {x : Nm} {ks : List Nm} {i : Nat} (h : indexK x ks = some i) : indexI x ks = i := by unfold indexI; rw [h]
theorem indexI_none {x : Nm} {ks : List Nm} (h : indexK x ks = none) : indexI x ks = -1 := by unfold indexI; rw [h]
set_option maxHeartbeats 1000000 in
theorem sindex_any (a : Option Addr) (c : Nat) (ks : List Nm) (x : Nm) (w : World) (h : Row w 1 a ks.length (ks.map strV)) (hl : ks.length ≤ 1048576) :
    Calls Tryz.prog 22 #[.slice a ks.length c, .string ⟨x.toArray⟩] w (fun e w' => e = .returned (.int .i64 (indexI x ks)) ∧ Below w.heap.size w w') := by
  have HA := Lib.hid h
  clear h
  have hind : ∀ k, k ≤ ks.length → (∀ j, j < k → ks[j]? ≠ some x) → (ks[k]? = some x → indexK x ks = some k) ∧ (k = ks.length → indexK x ks = none) := by
    intro k hk hf
    constructor
    · intro hx; exact indexK_first hx hf
    · intro he
      cases hi : indexK x ks with
      | none => rfl
      | some i =>
        have := indexK_some hi
        have hil : i < ks.length := (List.getElem?_eq_some_iff.1 this.1).1
        exact absurd this.1 (hf i (by omega))
  have HI := Lib.hid hind
  clear hind
  go_enter Tryz.func22, Tryz.ntmps22
  go_wp2_with fail
  go_loopw [4, 8] (fun _ i wq => ∃ k : Nat, k ≤ ks.length ∧ i = .int .i64 k ∧ Hid (Below w.heap.size w wq ∧ ∀ j, j < k → ks[j]? ≠ some x)) (fun _ i _ => ks.length - (intOf i).toNat)
  case atStart => exact ⟨0, Nat.zero_le _, rfl, Lib.hid ⟨Below.refl _ _, fun j h => by omega⟩⟩
  case round =>
    obtain ⟨k, hk, rfl, hq⟩ := hrel
    by_cases hlt : k < ks.length
    · obtain ⟨y, hy⟩ := get_some hlt
      obtain ⟨ab, ao, rfl, v1⟩ := (HA.out.ext hq.out.1).elem1 hy
      have Hy := Lib.hid hy
      have hkl : (k : Int) < ks.length := by omega
      have u1 : wr.cell? ⟨ab, ao + k, none⟩ = some (.string ⟨y.toArray⟩) := v1
      clear hy v1
      by_cases hxy : x = y
      · have hne : (x == y) = true := by simpa using hxy
        have Hi : Hid (indexI x ks = k) := Lib.hid (indexI_some ((HI.out k hk hq.out.2).1 (by rw [hxy]; exact Hy.out)))
        clear hxy
        go_wp2
        go_ret
        exact ⟨by rw [Hi.out]; rfl, hq.out.1⟩
      · have hne : (x == y) = false := by simpa using hxy
        have Hxy := Lib.hid hxy
        clear hxy
        go_wp2
        go_roundw
        case rel =>
          refine ⟨k + 1, by omega, by go_num, Lib.hid ⟨hq.out.1, fun j hj => ?_⟩⟩
          rcases Nat.lt_or_ge j k with h | h
          · exact hq.out.2 j h
          · obtain rfl : j = k := by omega
            rw [Hy.out]; intro e; exact Hxy.out (Option.some.inj e).symm
        case measure => simp [intOf]; omega
    · obtain rfl : k = ks.length := by omega
      have Hi : Hid (indexI x ks = -1) := Lib.hid (indexI_none ((HI.out _ (Nat.le_refl _) hq.out.2).2 rfl))
      go_wp2
      go_ret
      exact ⟨by rw [Hi.out]; rfl, hq.out.1⟩
end Go.Proofs.YtahiopjplfnlmaaGreatDoor
