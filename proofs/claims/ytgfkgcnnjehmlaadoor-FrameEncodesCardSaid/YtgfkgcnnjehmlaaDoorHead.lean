/- head, walked. -/
import Derived.Test.YtgfkgcnnjehmlaaDoorDec
import Derived.Test.YtgfkgcnnjehmlaaDoorShelf
import Derived.Shelf.Strings.SlTrimAscii
import Derived.WalkSmall
import Derived.Lib.AppendIntMem
namespace Go.Proofs.YtgfkgcnnjehmlaaDoor
open Go Go.RowKit

/-- the package-level variables that the code reads: the two errors are some errors, the table is Go's -/
structure Glob (w : World) : Prop where
  syn : ∃ tp p, w.var? Tryd.prog "strconv.ErrSyntax" = some #[.iface tp p]
  rng : ∃ tp p, w.var? Tryd.prog "strconv.ErrRange" = some #[.iface tp p]
  tab : Lib.TabIs Tryd.prog w "internal/strconv.uint64pow10" .u64 Lib.pow10Tab
  size : 3 ≤ w.heap.size
theorem Tryd.gSyn : Tryd.prog.globalNamed "strconv.ErrSyntax" = some 1 := by kernel_rfl
theorem Tryd.gRng : Tryd.prog.globalNamed "strconv.ErrRange" = some 2 := by kernel_rfl
theorem Tryd.gTab : Tryd.prog.globalNamed "internal/strconv.uint64pow10" = some 0 := by kernel_rfl
theorem Glob.below {B : Nat} {w w' : World} (h : Glob w) (hb : Below B w w') (hB : 3 ≤ B) : Glob w' := by
  obtain ⟨t1, p1, h1⟩ := h.syn
  obtain ⟨t2, p2, h2⟩ := h.rng
  exact ⟨⟨t1, p1, var?_below hb Tryd.gSyn (by omega) h1⟩, ⟨t2, p2, var?_below hb Tryd.gRng (by omega) h2⟩, var?_below hb Tryd.gTab (by omega) h.tab, Nat.le_trans h.size hb.size⟩
theorem Glob.ext {w w' : World} (h : Glob w) (hb : Below w.heap.size w w') : Glob w' := h.below hb h.size

/-- head's three results -/
def HeadR (s : ByteArray) (v : Value) (_ : World) : Prop :=
  ∃ (n : Int) (r : ByteArray) (ok : Bool), v = .tuple #[.int .i64 n, .string r, .bool ok] ∧ r.size ≤ s.size ∧
    ((ok = false ∧ beg s.data.toList = none) ∨ (ok = true ∧ n = -1 ∧ beg s.data.toList = some none) ∨
     (ok = true ∧ 0 ≤ n ∧ n ≤ 65536 ∧ beg s.data.toList = if r.size < n.toNat then some none else some (some (r.data.toList.take n.toNat, r.data.toList.drop n.toNat))))
theorem clone_any (s : ByteArray) (w : World) (hs : s.size ≤ 1048576) : Calls Tryd.prog 23 #[.string s] w (Ret w (fun v _ => v = .string s)) := by
  go_enter Tryd.func23, Tryd.ntmps23
  go_wp2_with fail
  refine (Tryd.stringslite_Clone s w (by omega)).mono ?_
  rintro e w1 ⟨rfl, hb⟩
  go_wp2
  go_ret
  exact ⟨_, rfl, hb, rfl⟩

theorem figs_isFig (c : UInt8) : ([48, 49, 50, 51, 52, 53, 54, 55, 56, 57] : List UInt8).contains c = isFig c := by
  rw [Bool.eq_iff_iff, isFig_iff]
  simp only [List.contains_cons, List.contains_nil, Bool.or_false, Bool.or_eq_true, beq_iff_eq, ← UInt8.toNat_inj]
  have h0 : (48 : UInt8).toNat = 48 := rfl
  have h1 : (49 : UInt8).toNat = 49 := rfl
  have h2 : (50 : UInt8).toNat = 50 := rfl
  have h3 : (51 : UInt8).toNat = 51 := rfl
  have h4 : (52 : UInt8).toNat = 52 := rfl
  have h5 : (53 : UInt8).toNat = 53 := rfl
  have h6 : (54 : UInt8).toNat = 54 := rfl
  have h7 : (55 : UInt8).toNat = 55 := rfl
  have h8 : (56 : UInt8).toNat = 56 := rfl
  have h9 : (57 : UInt8).toNat = 57 := rfl
  omega

theorem trim_any (s : ByteArray) (w : World) : Calls Tryd.prog 29 #[.string s, .string { data := #[48, 49, 50, 51, 52, 53, 54, 55, 56, 57] }] w (Ret w (fun v _ => v = .string ⟨(s.data.toList.dropWhile isFig).toArray⟩)) := by
  refine (Any.strings_TrimLeft_laid Tryd.lays161 (by kernel_rfl) s { data := #[48, 49, 50, 51, 52, 53, 54, 55, 56, 57] } w (by decide) ?_).mono ?_
  · intro j b hb
    have hm : b ∈ ([48, 49, 50, 51, 52, 53, 54, 55, 56, 57] : List UInt8) := List.mem_of_getElem? hb
    have hf : ([48, 49, 50, 51, 52, 53, 54, 55, 56, 57] : List UInt8).contains b = true := by simpa using hm
    rw [figs_isFig, isFig_iff] at hf
    omega
  · rintro e w' ⟨rfl, hb⟩
    have e1 : Lib.trimLeftS s.data.toList [48, 49, 50, 51, 52, 53, 54, 55, 56, 57] = s.data.toList.dropWhile isFig := by
      unfold Lib.trimLeftS; congr 1; funext c; exact figs_isFig c
    exact ⟨_, rfl, hb, by rw [← e1]⟩

set_option maxHeartbeats 1000000 in
theorem head_any (s : ByteArray) (w : World) (hG : Glob w) (hs : s.size ≤ 1048576) : Calls Tryd.prog 22 #[.string s] w (Ret w (HeadR s)) := by
  have HG := Lib.hid hG
  clear hG
  go_enter Tryd.func22, Tryd.ntmps22
  go_wp2_with fail
  refine (starts_any s { data := #[67, 111, 110, 116, 101, 110, 116, 45, 76, 101, 110, 103, 116, 104, 58, 32] } w (by unfold maxLen; omega) (by decide)).mono ?_
  rintro e w1 ⟨v, rfl, hb1, st, rfl, hst⟩
  have Hst : Hid (st = true ↔ s.data.toList.take 16 = wordL.take s.data.toList.length) := hst
  have HB1 := Lib.hid hb1
  clear hst hb1
  have hlen : s.data.toList.length = s.size := rfl
  cases st
  · have hbeg : beg s.data.toList = none := by
      have hn : ¬ (s.data.toList.take 16 = wordL.take s.data.toList.length) := fun h => by have := Hst.out.2 h; simp at this
      unfold beg; rw [if_neg hn]
    have Hbeg := Lib.hid hbeg
    clear hbeg
    go_wp2
    go_ret3
    exact ⟨_, rfl, HB1.out, 0, _, false, rfl, Nat.zero_le _, .inl ⟨rfl, Hbeg.out⟩⟩
  · by_cases hle : s.size ≤ 16
    · have hbeg : beg s.data.toList = some none := by unfold beg; rw [if_pos (Hst.out.1 rfl), if_pos (by omega)]
      have Hbeg := Lib.hid hbeg
      clear hbeg
      go_wp2
      go_ret3
      exact ⟨_, rfl, HB1.out, -1, _, true, rfl, Nat.zero_le _, .inr (.inl ⟨rfl, rfl, Hbeg.out⟩)⟩
    · have hle2 : (16 : Int) < s.size := by omega
      go_wp2_with fail
      refine (trim_any (s.extract 16 s.size) w1).mono ?_
      rintro e w2 ⟨v, rfl, hb2, rfl⟩
      have ht : (s.extract 16 s.size).data.toList = s.data.toList.drop 16 := Lib.extract_to_end _ _
      have hts : (s.extract 16 s.size).size = s.size - 16 := by simp
      have Ht := Lib.hid ht
      have HB2 := Lib.hid (HB1.out.trans (hb2.mono HB1.out.size))
      have HG2 := Lib.hid ((HG.out.ext HB1.out).ext hb2)
      clear ht hb2 HB1
      have hrl : (((s.extract 16 s.size).data.toList.dropWhile isFig).toArray).size ≤ s.size - 16 := by
        have h1 := congrArg List.length (List.takeWhile_append_dropWhile (p := isFig) (l := (s.extract 16 s.size).data.toList))
        rw [List.length_append] at h1
        have h2 : (s.extract 16 s.size).data.toList.length = (s.extract 16 s.size).size := rfl
        rw [List.size_toArray]; omega
      generalize s.extract 16 s.size = t at *
      obtain ⟨r, hr⟩ : ∃ r : ByteArray, r = ⟨(t.data.toList.dropWhile isFig).toArray⟩ := ⟨_, rfl⟩
      rw [← hr]
      have Hr := Lib.hid hr
      have hrs : r.size ≤ s.size - 16 := by rw [hr]; exact hrl
      clear hr hrl
      go_wp2_with fail
      have hq : (t.extract 0 (s.size - 16 - r.size)).data.toList = (s.data.toList.drop 16).takeWhile isFig := by
        have e1 := List.takeWhile_append_dropWhile (p := isFig) (l := t.data.toList)
        have e2 : (t.data.toList.dropWhile isFig).length = r.size := by rw [Hr.out]; simp [ByteArray.size]
        have e3 := congrArg List.length e1
        rw [List.length_append] at e3
        have e4 : t.data.toList.length = t.size := rfl
        rw [Lib.extract_data, List.drop_zero, ← Ht.out]
        have e5 : s.size - 16 - r.size - 0 = (t.data.toList.takeWhile isFig).length := by omega
        rw [e5]
        have e6 : t.data.toList.take (t.data.toList.takeWhile isFig).length = (t.data.toList.takeWhile isFig ++ t.data.toList.dropWhile isFig).take (t.data.toList.takeWhile isFig).length := by rw [e1]
        rw [e6, List.take_left' rfl]
      have hqs : (t.extract 0 (s.size - 16 - r.size)).size ≤ s.size := by simp; omega
      have hbeg : beg s.data.toList = match numOf ((s.data.toList.drop 16).takeWhile isFig) with
          | none => none
          | some n =>
            if r.data.toList.take 4 = endL.take r.data.toList.length then
              if r.data.toList.length < 4 + n then some none
              else some (some ((r.data.toList.drop 4).take n, r.data.toList.drop (4 + n)))
            else none := by
        have e1 : r.data.toList = (s.data.toList.drop 16).dropWhile isFig := by rw [Hr.out, Ht.out]
        rw [e1]
        unfold beg
        rw [if_pos (Hst.out.1 trivial), if_neg (by omega)]
        cases numOf ((s.data.toList.drop 16).takeWhile isFig) <;> rfl
      have Hbeg := Lib.hid hbeg
      generalize t.extract 0 (s.size - 16 - r.size) = q at *
      have hfigs : ∀ c ∈ (s.data.toList.drop 16).takeWhile isFig, isFig c = true := takeWhile_mem
      obtain ⟨n1, n2⟩ := atoi_num hfigs
      rw [← hq] at n1 n2 Hbeg
      have N1 := Lib.hid n1
      have N2 := Lib.hid n2
      clear hfigs n1 n2 hbeg Ht Hr hq
      have nobeg : numOf q.data.toList = none → beg s.data.toList = none := fun h => by rw [Hbeg.out, h]
      have Nobeg := Lib.hid nobeg
      clear nobeg
      rcases hat : Lib.atoiAll q.data.toList with v | _ | _
      · obtain ⟨v0, v1⟩ := N2.out v hat
        have V1 := Lib.hid v1
        refine (Tryd.strconv_Atoi_ok q (by omega) v hat w2).mono ?_
        rintro e w3 ⟨rfl, hw3⟩
        have hb3 : Below w2.heap.size w2 w3 := by
          rcases hw3 with rfl | ⟨t', rfl⟩
          · exact Below.refl _ _
          · exact Lib.bytesWorld_below _ _ _
        have HB3 := Lib.hid (HB2.out.trans (hb3.mono HB2.out.size))
        have HG3 := Lib.hid (HG2.out.ext hb3)
        have Hat := Lib.hid hat
        clear v1 hw3 hb3 HB2 HG2 hat
        by_cases hbig : v ≤ 65536
        · go_wp2_with fail
          refine (Tryd.strconv_Itoa v (by omega) (by omega) w3 HG3.out.tab).mono ?_
          rintro e w4 ⟨rfl, k, os, hw4⟩
          have hb4 : Below w3.heap.size w3 w4 := by rw [hw4]; exact Lib.below_grow w3.heap.size w3 (Nat.le_refl _) k os
          have HB4 := Lib.hid (HB3.out.trans (hb4.mono HB3.out.size))
          have HG4 := Lib.hid (HG3.out.ext hb4)
          obtain ⟨z, hz⟩ : ∃ z : ByteArray, z = ⟨(Lib.itoa v).toArray⟩ := ⟨_, rfl⟩
          rw [← hz]
          have Hz := Lib.hid hz
          clear hb4 hz HB3 HG3 hw4
          by_cases he : Lib.itoa v = q.data.toList
          · have hze : (z.toList == q.toList) = true := by
              rw [Hz.out, Lib.toList_data, Lib.toList_data]; simpa using he
            have hnum := V1.out hbig he
            have hbeg := Hbeg.out
            rw [hnum] at hbeg
            have Hb := Lib.hid hbeg
            clear hnum hbeg he
            go_wp2_with fail
            refine (starts_any r { data := #[13, 10, 13, 10] } w4 (by unfold maxLen; omega) (by decide)).mono ?_
            rintro e w5 ⟨v5, rfl, hb5, st, rfl, hst⟩
            have Hst5 : Hid (st = true ↔ r.data.toList.take 4 = endL.take r.data.toList.length) := hst
            have HB5 := Lib.hid (HB4.out.trans (hb5.mono HB4.out.size))
            clear hst hb5 hze
            have hrl : r.data.toList.length = r.size := rfl
            cases st
            · have hb6 : beg s.data.toList = none := by
                rw [Hb.out]
                rw [if_neg (fun h => by have := Hst5.out.2 h; cases this)]
              have Hb6 := Lib.hid hb6
              clear hb6
              go_wp2
              go_ret3
              exact ⟨_, rfl, HB5.out, 0, _, false, rfl, Nat.zero_le _, .inl ⟨rfl, Hb6.out⟩⟩
            · have hb6 : beg s.data.toList = if r.data.toList.length < 4 + v.toNat then some none else some (some ((r.data.toList.drop 4).take v.toNat, r.data.toList.drop (4 + v.toNat))) := by
                rw [Hb.out]
                rw [if_pos (Hst5.out.1 rfl)]
              by_cases h4 : r.size < 4
              · rw [if_pos (by omega)] at hb6
                have Hb6 := Lib.hid hb6
                clear hb6
                go_wp2
                go_ret3
                exact ⟨_, rfl, HB5.out, -1, _, true, rfl, Nat.zero_le _, .inr (.inl ⟨rfl, rfl, Hb6.out⟩)⟩
              · have Hb6 := Lib.hid hb6
                have h42 : (4 : Int) ≤ r.size := by omega
                clear hb6
                go_wp2_with fail
                go_quiet (fail)
                go_wp2
                go_ret3
                refine ⟨_, rfl, below_drew HB5.out _, v, _, true, rfl, by simp; omega, .inr (.inr ⟨rfl, v0, hbig, ?_⟩)⟩
                have e1 : (r.extract 4 r.size).data.toList = r.data.toList.drop 4 := Lib.extract_to_end _ _
                have e2 : (r.extract 4 r.size).size = r.size - 4 := by simp
                rw [Hb6.out, e1, e2, List.drop_drop]
                by_cases h5 : r.data.toList.length < 4 + v.toNat
                · rw [if_pos h5, if_pos (by omega)]
                · rw [if_neg h5, if_neg (by omega)]
          · have hze : (z.toList == q.toList) = false := by
              rw [Hz.out, Lib.toList_data, Lib.toList_data]; simpa using he
            have hbeg : beg s.data.toList = none := Nobeg.out (by
              cases h : numOf q.data.toList with
              | none => rfl
              | some n =>
                have h1 := N1.out n h
                rw [Hat.out] at h1
                injection h1 with h1
                have h2 := (numOf_some h).2.2
                exact absurd (by rw [h1, Lib.itoa_nonneg]; exact h2) he)
            have Hb := Lib.hid hbeg
            clear hbeg
            go_wp2
            go_ret3
            exact ⟨_, rfl, HB4.out, 0, _, false, rfl, Nat.zero_le _, .inl ⟨rfl, Hb.out⟩⟩
        · have hbig2 : (65536 : Int) < v := by omega
          have hbeg : beg s.data.toList = none := Nobeg.out (by
            cases h : numOf q.data.toList with
            | none => rfl
            | some n =>
              have h1 := N1.out n h
              rw [Hat.out] at h1
              injection h1 with h1
              have := (numOf_some h).2.1
              omega)
          have Hb := Lib.hid hbeg
          clear hbeg
          go_wp2
          go_ret3
          exact ⟨_, rfl, HB3.out, 0, _, false, rfl, Nat.zero_le _, .inl ⟨rfl, Hb.out⟩⟩
      · obtain ⟨tp, p, hvar⟩ := HG2.out.syn
        refine (Any.strconv_Atoi_syntax_var Tryd.laysC172 q (by omega) hat tp p w2 hvar).mono ?_
        rintro e w3 ⟨N, rfl, -, -, hb3⟩
        have HB3 := Lib.hid (HB2.out.trans (hb3.mono HB2.out.size))
        have hbeg : beg s.data.toList = none := Nobeg.out (by
          cases h : numOf q.data.toList with
          | none => rfl
          | some n => have h1 := N1.out n h; rw [hat] at h1; cases h1)
        have Hb := Lib.hid hbeg
        clear hbeg hb3 hvar hat
        go_wp2
        go_ret3
        exact ⟨_, rfl, HB3.out, 0, _, false, rfl, Nat.zero_le _, .inl ⟨rfl, Hb.out⟩⟩
      · obtain ⟨tp, p, hvar⟩ := HG2.out.rng
        refine (Tryd.strconv_Atoi_range_var q (by omega) hat tp p w2 hvar).mono ?_
        rintro e w3 ⟨N, rfl, -, -, hb3⟩
        have HB3 := Lib.hid (HB2.out.trans (hb3.mono HB2.out.size))
        have hbeg : beg s.data.toList = none := Nobeg.out (by
          cases h : numOf q.data.toList with
          | none => rfl
          | some n => have h1 := N1.out n h; rw [hat] at h1; cases h1)
        have Hb := Lib.hid hbeg
        clear hbeg hb3 hvar hat
        go_wp2
        go_ret3
        exact ⟨_, rfl, HB3.out, 0, _, false, rfl, Nat.zero_le _, .inl ⟨rfl, Hb.out⟩⟩
end Go.Proofs.YtgfkgcnnjehmlaaDoor
