/- key, walked. -/
import Derived.Test.YtahiopjplfnlmaaGreatDoorKey
namespace Go.Proofs.YtahiopjplfnlmaaGreatDoor
open Go Go.RowKit

/-- what key comes to -/
def KyE (w0 : World) (b : Nat) (o : Int) (sort : Int) (vs : List VD) (la : Option Addr) (lc : Nat) (ks : List Nm) (res : Option (Nm × Nm)) (e : Ending) (w' : World) : Prop :=
  match res with
  | none => e = .returned (.int .i64 21) ∧ ∃ (t : Nm) (ks' : List Nm) (ka' : Option Addr) (kc' : Nat), RdAt w' b t o ∧ PV w0 w' b sort vs la lc ks' ka' kc'
  | some (k, t) => e = .returned (.int .i64 0) ∧ ∃ (ka' : Option Addr) (kc' : Nat), RdAt w' b t o ∧ PV w0 w' b sort vs la lc (ks ++ [k]) ka' kc'
theorem kyE_none {w0 : World} {b : Nat} {o sort : Int} {vs : List VD} {la : Option Addr} {lc : Nat} {ks : List Nm} {res : Option (Nm × Nm)} {w' : World} {t : Nm} {ks' : List Nm} {ka' : Option Addr} {kc' : Nat} (h : res = none) (h1 : RdAt w' b t o) (h2 : PV w0 w' b sort vs la lc ks' ka' kc') : KyE w0 b o sort vs la lc ks res (.returned (.int .i64 21)) w' := by
  rw [h]; exact ⟨rfl, t, ks', ka', kc', h1, h2⟩
theorem kyE_some {w0 : World} {b : Nat} {o sort : Int} {vs : List VD} {la : Option Addr} {lc : Nat} {ks : List Nm} {res : Option (Nm × Nm)} {w' : World} {k t : Nm} {ka' : Option Addr} {kc' : Nat} (h : res = some (k, t)) (h1 : RdAt w' b t o) (h2 : PV w0 w' b sort vs la lc (ks ++ [k]) ka' kc') : KyE w0 b o sort vs la lc ks res (.returned (.int .i64 0)) w' := by
  rw [h]; exact ⟨rfl, ka', kc', h1, h2⟩

set_option maxHeartbeats 4000000 in
theorem key_any (b : Nat) (s : Nm) (o : Int) (sort : Int) (w0 w : World) (vs : List VD) (la : Option Addr) (lc : Nat) (ks : List Nm) (ka : Option Addr) (kc : Nat) (hb : b < w0.heap.size) (h : RdAt w b s o) (hs : s.length ≤ 1048576) (hks : ks.length ≤ 1048576) (hP : PV w0 w b sort vs la lc ks ka kc) :
    Calls Tryz.prog 59 #[.pointer (some ⟨b, 0, none⟩), .pointer (some ⟨w0.heap.size + 2, 0, none⟩)] w (KyE w0 b o sort vs la lc ks (keyL s ks)) := by
  have hkl : keyL s ks = match quoteL (skip s) with | none => none | some (k, r) => if k ∈ ks then none else match takes [58] (skip r) with | none => none | some r => some (k, r) := rfl
  have Hkl := Lib.hid hkl
  obtain ⟨res, hres⟩ : ∃ res, res = keyL s ks := ⟨_, rfl⟩
  rw [← hres] at Hkl ⊢
  have h1 := skip_any b s o w h
  have H1 := Lib.hid h1
  have HP := Lib.hid hP
  have hsk := skip_len s
  clear hkl hres h1 h hP
  go_enter Tryz.func59, Tryz.ntmps59
  go_wp2_with fail
  refine H1.out.mono ?_
  rintro e w1 ⟨rfl, hk1, hr1⟩
  have HP1 := Lib.hid (HP.out.turn hb hk1)
  have HR1 := Lib.hid hr1
  clear hk1 hr1 H1 HP
  go_wp2_with fail
  refine (quote_any b (skip s) o w1 HR1.out (by omega)).mono ?_
  cases hq : quoteL (skip s) with
  | none =>
    rintro e w2 ⟨x, t, rfl, hk2, hr2⟩
    have HP2 := Lib.hid (HP1.out.turn hb hk2)
    have HR2 := Lib.hid hr2
    have hn : res = none := by rw [Hkl.out, hq]
    have Hn := Lib.hid hn
    clear hk2 hr2 hq hn
    unfold strV
    go_wp2
    go_ret
    exact kyE_none Hn.out HR2.out HP2.out
  | some p =>
    obtain ⟨k, r⟩ := p
    rintro e w2 ⟨rfl, hk2, hr2⟩
    have hp2 := HP1.out.turn hb hk2
    have HR2 := Lib.hid hr2
    have hlen := quoteL_len hq
    have hn : res = if k ∈ ks then none else match takes [58] (skip r) with | none => none | some r => some (k, r) := by rw [Hkl.out, hq]
    have hcon := contains_any ka kc ks k w2 hp2.kown.row hks
    have c5 := hp2.blk.cell 5
    have f5 := hp2.blk.free 5
    simp only [List.getElem?_toArray, List.getElem?_cons_zero, List.getElem?_cons_succ] at c5
    have HP2 := Lib.hid hp2
    have Hcon := Lib.hid hcon
    have HN := Lib.hid hn
    clear hk2 hr2 hq hn hcon hp2
    unfold strV
    go_wp2_with fail
    refine Hcon.out.mono ?_
    rintro e w3 ⟨rfl, rfl⟩
    by_cases hm : k ∈ ks
    · have hn : res = none := by rw [HN.out, if_pos hm]
      have Hn := Lib.hid hn
      have hd : decide (k ∈ ks) = true := decide_eq_true hm
      rw [hd]
      clear hn hm hd Hcon
      go_wp2
      go_ret
      exact kyE_none Hn.out HR2.out HP2.out
    · have hn : res = match takes [58] (skip r) with | none => none | some r => some (k, r) := by rw [HN.out, if_neg hm]
      have Hn := Lib.hid hn
      have hd : decide (k ∈ ks) = false := decide_eq_false hm
      rw [hd]
      have hg2 : w0.heap.size + 2 < w3.heap.size := HP2.out.blk.lt
      have hcap := HP2.out.kown.le
      clear hn hm hd Hcon
      go_wp2_with (at_builtin; refine wpList_append_Own rfl _ _ 24 rfl (w0.heap.size + 3) 9 _ 1 16 Tryz.underlying24 Tryz.infoStr rfl (by decide) ka ks.length kc _ rfl (by exact HP2.out.kown.alloc _) _ 1 1 [strV k] rfl (Row.new1 (by simp) rfl rfl) (by intro u hu; simp at hu; subst hu; rfl) (by unfold maxLen; omega) (by omega) (by simp; omega) ?_; intro a5 c5' w5 hown5 hg5 hbk5; have q5 : Blk w5 _ _ _ := (HP2.out.blk.alloc _).grown hg5 (HP2.out.kown.apart (by omega)); have q5c := q5.cell 5; have q5f := q5.free 5; clear q5; simp only [List.getElem?_toArray, List.getElem?_cons_zero, List.getElem?_cons_succ] at q5c)
      have HP5 : Hid (PV w0 (w5.setCell ⟨w0.heap.size + 2, 5, none⟩ (.slice a5 (ks.length + 1) c5')) b sort vs la lc (ks ++ [k]) a5 c5') := Lib.hid ((HP2.out.ext hb (below_a1 _ _)).pushKey (by rw [List.map_append]; exact hown5) hg5 (by
        rcases hbk5 with h | h
        · exact .inl h
        · exact .inr ⟨_, h, Nat.le_refl _⟩))
      have hrd5 : RdAt (w5.setCell ⟨w0.heap.size + 2, 5, none⟩ (.slice a5 (ks.length + 1) c5')) b r o := Blk.other (p := ⟨w0.heap.size + 2, 5, none⟩) (Blk.grown (Blk.alloc HR2.out _) hg5 (HP2.out.kown.apart (by omega))) (by show b ≠ w0.heap.size + 2; omega) _
      have HR5 := Lib.hid hrd5
      clear hown5 hg5 hbk5 q5c q5f hrd5 HP2 HR2 c5 f5
      generalize w5.setCell ⟨w0.heap.size + 2, 5, none⟩ (.slice a5 (ks.length + 1) c5') = w6 at *
      refine (skip_any b r o w6 HR5.out).mono ?_
      rintro e w7 ⟨rfl, hk7, hr7⟩
      have HP7 := Lib.hid (HP5.out.turn hb hk7)
      have HR7 := Lib.hid hr7
      clear hk7 hr7 HP5 HR5
      cases ht : takes [58] (skip r) with
      | none =>
        have hn : res = none := by rw [Hn.out, ht]
        have HN2 := Lib.hid hn
        have HT := Lib.hid ht
        clear hn ht
        go_wp2_with fail
        refine (takes_no b (skip r) [58] o w7 HR7.out HT.out).mono ?_
        rintro e w8 ⟨rfl, hk8, hr8⟩
        have HP8 := Lib.hid (HP7.out.turn hb hk8)
        have HR8 := Lib.hid hr8
        clear hk8 hr8
        go_wp2
        go_ret
        exact kyE_none HN2.out HR8.out HP8.out
      | some r2 =>
        have hn : res = some (k, r2) := by rw [Hn.out, ht]
        have HN2 := Lib.hid hn
        have HT := Lib.hid ht
        clear hn ht
        go_wp2_with fail
        refine (takes_yes b (skip r) [58] r2 o w7 HR7.out HT.out).mono ?_
        rintro e w8 ⟨rfl, hk8, hr8⟩
        have HP8 := Lib.hid (HP7.out.turn hb hk8)
        have HR8 := Lib.hid hr8
        clear hk8 hr8
        go_wp2
        go_ret
        exact kyE_some HN2.out HR8.out HP8.out
end Go.Proofs.YtahiopjplfnlmaaGreatDoor
