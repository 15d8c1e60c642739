/- number: one that comes; walked. -/
import Derived.Test.YtahiopjplfnlmaaGreatDoorQuo
import Derived.Shelf.Strconv.ErrVarAll
namespace Go.Proofs.YtahiopjplfnlmaaGreatDoor
open Go Go.RowKit

theorem atoi_range {l : Nm} {n : Int} (h : Lib.atoiAll l = .ok n) : -9223372036854775808 ≤ n ∧ n ≤ 9223372036854775807 := by
  cases l with
  | nil => simp [Lib.atoiAll] at h
  | cons c r =>
    simp only [Lib.atoiAll] at h
    split at h
    · cases h
    · cases h
    · rename_i u hu
      split at h
      · cases h
      · rename_i h1
        split at h
        · cases h
        · rename_i h2
          injection h with h
          split at h
          · rename_i h3
            have : ¬ 9223372036854775808 < u := fun h4 => h2 ⟨h3, h4⟩
            omega
          · rename_i h3
            have : ¬ 9223372036854775808 ≤ u := fun h4 => h1 ⟨h3, h4⟩
            omega
/-- what Atoi hands back where it fails -/
def AtoiBad (w : World) (e : Ending) (w' : World) : Prop := ∃ (m : Int) (N : Nat), e = .returned (.tuple #[.int .i64 m, .iface 147 (.pointer (some ⟨N, 0, none⟩))]) ∧ Below w.heap.size w w'
theorem atoi_bad (s : ByteArray) (w : World) (hG : Glob w) (hs : s.size ≤ 1048576) (h : ∀ n, Lib.atoiAll s.data.toList ≠ .ok n) : Calls Tryz.prog 77 #[.string s] w (AtoiBad w) := by
  cases ha : Lib.atoiAll s.data.toList with
  | ok n => exact absurd ha (h n)
  | range =>
    obtain ⟨tp, p, hv⟩ := hG.rng
    refine (Tryz.strconv_Atoi_range_var s (by omega) ha tp p w hv).mono ?_
    rintro e w' ⟨N, rfl, -, -, hb⟩
    exact ⟨_, N, rfl, hb⟩
  | _ =>
    obtain ⟨tp, p, hv⟩ := hG.syn
    refine (Any.strconv_Atoi_syntax_var Tryz.laysC172 s (by omega) ha tp p w hv).mono ?_
    rintro e w' ⟨N, rfl, -, -, hb⟩
    exact ⟨_, N, rfl, hb⟩
theorem atoi_good (s : ByteArray) (w : World) (hs : s.size ≤ 1048576) (n : Int) (h : Lib.atoiAll s.data.toList = .ok n) : Calls Tryz.prog 77 #[.string s] w (fun e w' => e = .returned (.tuple #[.int .i64 n, .nilIface]) ∧ Below w.heap.size w w') := by
  refine (Tryz.strconv_Atoi_ok s (by omega) n h w).mono ?_
  rintro e w' ⟨rfl, hw⟩
  refine ⟨rfl, ?_⟩
  rcases hw with rfl | ⟨t', rfl⟩
  · exact Below.refl _ _
  · exact Lib.bytesWorld_below _ _ _
theorem itoa_any (n : Int) (w : World) (hG : Glob w) (h : -9223372036854775808 ≤ n ∧ n ≤ 9223372036854775807) : Calls Tryz.prog 32 #[.int .i64 n] w (fun e w' => e = .returned (.string ⟨(Lib.itoa n).toArray⟩) ∧ Below w.heap.size w w') := by
  refine (Tryz.strconv_Itoa n h.1 h.2 w hG.tab).mono ?_
  rintro e w' ⟨rfl, k, os, hw⟩
  exact ⟨rfl, by rw [hw]; exact Lib.below_grow _ _ (Nat.le_refl _) _ _⟩
theorem figs_eq (s : Nm) : (s.dropWhile fun x => ([48, 49, 50, 51, 52, 53, 54, 55, 56, 57] : Nm).contains x) = s.dropWhile isFig := by
  congr 1
  funext c
  rw [Bool.eq_iff_iff, isFig_iff]
  simp only [List.contains_cons, List.contains_nil, Bool.or_false, Bool.or_eq_true, beq_iff_eq, ← UInt8.toNat_inj]
  have h0 : (48 : UInt8).toNat = 48 := rfl
  have h1 : (49 : UInt8).toNat = 49 := rfl
  have h2 : (50 : UInt8).toNat = 50 := rfl
  have h3 : (51 : UInt8).toNat = 51 := rfl
  have h4 : (52 : UInt8).toNat = 52 := rfl
  have h5 : (53 : UInt8).toNat = 53 := rfl
  have h6 : (54 : UInt8).toNat = 54 := rfl
  have h7 : (55 : UInt8).toNat = 55 := rfl
  have h8 : (56 : UInt8).toNat = 56 := rfl
  have h9 : (57 : UInt8).toNat = 57 := rfl
  omega
/-- the text behind a minus -/
def noMinus (s : Nm) : Nm := match takes [45] s with | some r => r | none => s
theorem minus_any (s : Nm) (w : World) : Calls Tryz.prog 76 #[.string ⟨s.toArray⟩, .string { data := #[45] }] w fun e w' => e = .returned (.string ⟨(noMinus s).toArray⟩) ∧ w' = w := by
  have h1 := Tryz.strings_TrimPrefix ⟨s.toArray⟩ ⟨([45] : Nm).toArray⟩ w
  rw [data_nm, data_nm] at h1
  have e : Lib.trimPrefix s [45] = noMinus s := by
    unfold noMinus
    cases h : takes [45] s with
    | none => exact (cut_none h).2
    | some r => exact (cut_some h).2
  rw [e] at h1
  exact h1
theorem figs_any (s : Nm) (w : World) : Calls Tryz.prog 56 #[.string ⟨s.toArray⟩, .string { data := #[48, 49, 50, 51, 52, 53, 54, 55, 56, 57] }] w (Ret w (fun v _ => v = .string ⟨(s.dropWhile isFig).toArray⟩)) := by
  have := trim_any s [48, 49, 50, 51, 52, 53, 54, 55, 56, 57] w (by decide) (by decide)
  rw [figs_eq] at this
  exact this

/-- what number comes to -/
def NuE (w : World) (b : Nat) (o : Int) (res : Option (Int × Nm)) (e : Ending) (w' : World) : Prop :=
  match res with
  | none => ∃ (m : Int) (t : Nm), e = .returned (.tuple #[.int .i64 m, .bool false]) ∧ Keep b w w' ∧ RdAt w' b t o
  | some (n, t) => ScE w b o (.tuple #[.int .i64 n, .bool true]) t e w'
theorem nuE_none {w : World} {b : Nat} {o : Int} {res : Option (Int × Nm)} {w' : World} {m : Int} {t : Nm} (h : res = none) (h1 : Keep b w w') (h2 : RdAt w' b t o) : NuE w b o res (.returned (.tuple #[.int .i64 m, .bool false])) w' := by rw [h]; exact ⟨m, t, rfl, h1, h2⟩
theorem nuE_some {w : World} {b : Nat} {o : Int} {res : Option (Int × Nm)} {w' : World} {n : Int} {t : Nm} (h : res = some (n, t)) (h1 : Keep b w w') (h2 : RdAt w' b t o) : NuE w b o res (.returned (.tuple #[.int .i64 n, .bool true])) w' := by rw [h]; exact ⟨rfl, h1, h2⟩
theorem numRest_eq (s : Nm) : numRest s = (noMinus s).dropWhile isFig := by unfold numRest noMinus; rfl

set_option maxHeartbeats 2000000 in
theorem number_any (b : Nat) (s : Nm) (o : Int) (w : World) (hG : Glob w) (hb : 8 ≤ b) (h : RdAt w b s o) (hs : s.length ≤ 1048576) : Calls Tryz.prog 63 #[.pointer (some ⟨b, 0, none⟩)] w (NuE w b o (numL s)) := by
  have c0 := h.c0
  have H := Lib.hid h
  have HG := Lib.hid hG
  have hz := size_nm s
  have hy := size_nm (numRest s)
  have hle := numRest_len s
  have het := ext_to s (s.length - (numRest s).length)
  have Hm := Lib.hid (minus_any s)
  have Hf := Lib.hid (figs_any (noMinus s))
  rw [← numRest_eq] at Hf
  have hnum : numL s = match Lib.atoiAll (numHead s) with
    | .ok n => if Lib.itoa n = numHead s ∧ -9007199254740992 ≤ n ∧ n ≤ 9007199254740992 then some (n, numRest s) else none
    | _ => none := rfl
  have hhd : s.take (s.length - (numRest s).length) = numHead s := rfl
  rw [hhd] at het
  have hqs : (numHead s).length ≤ 1048576 := by unfold numHead; rw [List.length_take]; omega
  have hq := size_nm (numHead s)
  obtain ⟨res, hres⟩ : ∃ res, res = numL s := ⟨_, rfl⟩
  rw [← hres] at hnum ⊢
  clear hres hhd h hG
  have hRd : Hid (∀ w', Below w.heap.size w w' → RdAt w' b s o) := Lib.hid fun w' hw => H.out.ext hw
  generalize numRest s = t at *
  generalize numHead s = hd at *
  generalize noMinus s = nm at *
  obtain ⟨z, hze⟩ : ∃ z : ByteArray, z = ⟨s.toArray⟩ := ⟨_, rfl⟩
  obtain ⟨y, hye⟩ : ∃ y : ByteArray, y = ⟨t.toArray⟩ := ⟨_, rfl⟩
  obtain ⟨q, hqe⟩ : ∃ q : ByteArray, q = ⟨hd.toArray⟩ := ⟨_, rfl⟩
  rw [← hze] at c0 hz het Hm
  rw [← hye] at hy Hf
  rw [← hqe] at het hq
  have het2 : z.extract 0 (z.size - y.size) = q := by rw [hz, hy]; exact het
  have hyz : y.size ≤ z.size := by omega
  have hzs : z.size ≤ 1048576 := by omega
  have hqd : q.data.toList = hd := by rw [hqe, data_nm]
  have hqz : q.size ≤ 1048576 := by omega
  have Hye := Lib.hid hye
  have Hqe := Lib.hid hqe
  have hC : Hid (∀ w', Below w.heap.size w w' → w'.cell? ⟨b, 0, none⟩ = some (.string z) ∧ w'.frozen? ⟨b, 0, none⟩ = false) := Lib.hid fun w' hw => by
    rw [hze]; exact ⟨(hRd.out w' hw).c0, Blk.free (hRd.out w' hw) 0⟩
  have Het := Lib.hid het2
  have Hnum := Lib.hid hnum
  have Hqd := Lib.hid hqd
  clear hz hy hle het hq hye hqe hze het2 hnum hqd
  go_enter Tryz.func63, Tryz.ntmps63
  go_wp2_with fail
  refine (Hm.out _).mono ?_
  rintro e w1 ⟨rfl, rfl⟩
  go_wp2_with fail
  refine (Hf.out _).mono ?_
  rintro e w2 ⟨_, rfl, hb2, rfl⟩
  obtain ⟨c2, f2⟩ := hC.out w2 hb2
  have Hb2 := Lib.hid hb2
  have het2 := Het.out
  have HG2 := Lib.hid (HG.out.ext hb2)
  clear hb2 c0
  go_wp2_with fail
  go_quiet (fail)
  go_wp2_with fail
  generalize hW : w2.drewN _ = W
  have hbW : Below w1.heap.size w1 W := by rw [← hW]; exact below_drew Hb2.out _
  have HbW := Lib.hid hbW
  have HGW := Lib.hid (HG.out.ext hbW)
  clear hW hbW c2 f2 Hb2 HG2 het2
  cases ha : Lib.atoiAll q.data.toList with
  | ok n =>
    obtain ⟨r1, r2⟩ := atoi_range ha
    have hR : Hid (-9223372036854775808 ≤ n ∧ n ≤ 9223372036854775807) := Lib.hid ⟨r1, r2⟩
    have hres : res = if Lib.itoa n = q.data.toList ∧ -9007199254740992 ≤ n ∧ n ≤ 9007199254740992 then some (n, t) else none := by rw [Hnum.out, ← Hqd.out, ha]
    have Hres := Lib.hid hres
    have Ha := Lib.hid ha
    clear hres r1 r2 ha
    refine (atoi_good q W hqz n Ha.out).mono ?_
    rintro e w3 ⟨rfl, hb3⟩
    have hb3' := HbW.out.trans (hb3.mono HbW.out.size)
    have Hb3 := Lib.hid hb3'
    have HG3 := Lib.hid (HGW.out.ext hb3)
    obtain ⟨c3, f3⟩ := hC.out w3 hb3'
    have hr3 := (hRd.out w3 hb3').put t
    rw [← Hye.out] at hr3
    have hk3 := (((Keep.refl b w1).ext Hb3.out).set 0 (.string y))
    have HR3 := Lib.hid hr3
    have HK3 := Lib.hid hk3
    have HG4 := Lib.hid (hk3.glob HG.out hb)
    clear hb3 hb3' hr3 hk3
    go_wp2_with fail
    refine (itoa_any n _ HG4.out hR.out).mono ?_
    rintro e w4 ⟨rfl, hb4⟩
    have HR4 := Lib.hid (HR3.out.ext hb4)
    have HK4 := Lib.hid (HK3.out.ext hb4)
    obtain ⟨x, hx⟩ : ∃ x : ByteArray, x = ⟨(Lib.itoa n).toArray⟩ := ⟨_, rfl⟩
    rw [← hx]
    by_cases he : Lib.itoa n = q.data.toList
    · have hze : (x.toList == q.toList) = true := by
        rw [hx, Lib.toList_data, Lib.toList_data]; simpa using he
      have He := Lib.hid he
      clear hb4 hx he
      by_cases h1 : -9007199254740992 ≤ n
      · by_cases h2 : n ≤ 9007199254740992
        · have hs : res = some (n, t) := by rw [Hres.out, if_pos ⟨He.out, h1, h2⟩]
          have Hs := Lib.hid hs
          clear hs
          go_wp2
          go_ret2
          exact nuE_some Hs.out HK4.out HR4.out
        · have hs : res = none := by rw [Hres.out, if_neg (fun h => h2 h.2.2)]
          have Hs := Lib.hid hs
          have h3 : 9007199254740992 < n := by omega
          have h4 : decide (n ≤ 9007199254740992) = false := decide_eq_false h2
          clear hs
          go_wp2
          go_ret2
          exact nuE_none Hs.out HK4.out HR4.out
      · have hs : res = none := by rw [Hres.out, if_neg (fun h => h1 h.2.1)]
        have Hs := Lib.hid hs
        have h3 : n < -9007199254740992 := by omega
        clear hs
        go_wp2
        go_ret2
        exact nuE_none Hs.out HK4.out HR4.out
    · have hze : (x.toList == q.toList) = false := by
        rw [hx, Lib.toList_data, Lib.toList_data]; simpa using he
      have hs : res = none := by rw [Hres.out, if_neg (fun h => he h.1)]
      have Hs := Lib.hid hs
      clear hb4 hx he hs
      go_wp2
      go_ret2
      exact nuE_none Hs.out HK4.out HR4.out
  | _ =>
    have hres : res = none := by rw [Hnum.out, ← Hqd.out, ha]
    have Hres := Lib.hid hres
    have Ha := Lib.hid ha
    clear hres ha
    refine (atoi_bad q W HGW.out hqz (fun n h => by rw [Ha.out] at h; cases h)).mono ?_
    rintro e w3 ⟨m, N, rfl, hb3⟩
    have hb3' := HbW.out.trans (hb3.mono HbW.out.size)
    have Hb3 := Lib.hid hb3'
    obtain ⟨c3, f3⟩ := hC.out w3 hb3'
    have hr3 := (hRd.out w3 hb3').put t
    rw [← Hye.out] at hr3
    have HR3 := Lib.hid hr3
    have HK3 := Lib.hid (((Keep.refl b w1).ext Hb3.out).set 0 (.string y))
    clear hb3 hb3' hr3
    go_wp2
    go_ret2
    exact nuE_none Hres.out HK3.out HR3.out
end Go.Proofs.YtahiopjplfnlmaaGreatDoor
