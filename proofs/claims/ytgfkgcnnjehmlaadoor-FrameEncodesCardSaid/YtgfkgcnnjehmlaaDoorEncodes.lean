/- The frames of any bodies: the law, walked. -/
import Derived.Test.YtgfkgcnnjehmlaaDoorDig
import Derived.Laws.BytesArg
import Derived.Deep.OwnRows
namespace Go.Proofs.YtgfkgcnnjehmlaaDoor
open Go Go.RowKit

theorem Tryd.infoU8 : (Tryd.prog.info? 5).map (fun i => (i.zero, i.size, i.bytes)) = some (some (.int .u8 0), 1, 1) := by kernel_rfl
theorem made_at (n j : Nat) (h : j < n) : (madeCells #[.int .u8 0] n)[j]? = some (.int .u8 0) := by
  unfold madeCells
  rw [Array.getElem?_map, Array.getElem?_range]
  simp [h, Nat.mod_one]

/-- what 'string(b)' makes of a row of bytes that begins at off of a block -/
theorem conv_any (w : World) (g off len cap : Nat) (cur : Array Value) (c : Int) (hb : Blk w g cur 5) (hc : ∀ j, off ≤ j → j < off + len → cur[j]? = some (.int .u8 (if j = 0 then c else 0))) :
    ∃ z : ByteArray, z.size = len ∧ (convert 29 9 (.slice (some ⟨g, off, none⟩) len cap)).run Tryd.prog w = .ok (.string z) w := by
  refine ⟨_, ?_, run_convert_bytes_arg (w := w) 29 5 Tryd.underlying29 Tryd.underlying5 g off len cap ((List.range len).map fun i => if off + i = 0 then c else 0) (by simp) (fun i hi => ?_) 9 Tryd.underlying9⟩
  · rw [strOfNums_size]; simp
  · rw [hb.cell, hc (off + i) (by omega) (by omega)]
    simp [List.getD, hi]

set_option maxRecDepth 100000 in
set_option maxHeartbeats 1000000 in
theorem encodes_any (al : Option Addr) (cl : Nat) (l : List (List UInt8)) (c : Int) (w : World) (hG : Glob w) (hp : Row w 1 al l.length (l.map strV)) (hl : l.length ≤ maxLen) (hs : ∀ x ∈ l, x.length ≤ 140737488355328) :
    Calls Tryd.prog 3 #[.slice al l.length cl, .int .u8 c] w (Ret w (IsB True)) := by
  have HG := Lib.hid hG
  have HP := Lib.hid hp
  have hfits := fits_any al cl l w hp hl hs
  unfold maxLen at hl
  clear hG hp hs
  go_enter Tryd.func3, Tryd.ntmps3
  go_wp2_with fail
  refine hfits.mono ?_
  clear hfits
  rintro e w0 ⟨⟨ok, rfl, hok⟩, rfl⟩
  cases ok
  · clear hok
    go_wp2_with fail
    refine (alive_any w0 HG.out).mono ?_
    rintro e w2 ⟨v, rfl, hb2, b, rfl, hbt⟩
    obtain rfl : b = true := hbt.2 trivial
    go_wp2
    go_ret
    exact ⟨_, rfl, hb2, isB_true trivial⟩
  · obtain ⟨hl60, htot⟩ := hok rfl
    clear hok
    have hall : ∀ y ∈ l, y.length ≤ 65536 := fun y hy => by have := total_mem hy; omega
    have Hall := Lib.hid hall
    clear hall
    go_wp2_with fail
    refine (encode_any al cl l w0 HG.out HP.out (by omega)).mono ?_
    rintro e w1 ⟨v, rfl, hb1, henc⟩
    rcases henc with ⟨-, rfl⟩ | ⟨hno, _⟩
    rotate_left
    · exact absurd Hall.out hno
    obtain ⟨s, hsd⟩ : ∃ s : ByteArray, strV (encL l) = .string s := ⟨_, rfl⟩
    rw [hsd]
    go_wp2_with fail
    refine (refEncode_any al cl l w1 (HP.out.ext hb1) hl60 htot).mono ?_
    rintro e w2 ⟨v, rfl, hb2, rfl⟩
    rw [hsd]
    have HB2 := Lib.hid (hb1.trans (hb2.mono hb1.size))
    obtain ⟨big, hbig⟩ : ∃ big, big = madeCells #[Value.int .u8 0] 65537 := ⟨_, rfl⟩
    have hmk : ∀ w, (Instr.makeSlice 29 (.int .i64 65537) (.int .i64 65537)).run Tryd.prog w = .ok (.slice (some ⟨w.heap.size, 0, none⟩) 65537 65537) (w.alloc (.cells big 5)) := fun w => by
      rw [hbig]; exact run_make_row' (P := Tryd.prog) 29 5 (.int .u8 0) 1 Tryd.underlying29 Tryd.infoU8 rfl .i64 .i64 65537 (by decide) (by decide) w
    have hat : ∀ j, j < 65537 → big[j]? = some (.int .u8 0) := fun j hj => by rw [hbig]; exact made_at 65537 j hj
    have hblk : Blk (w2.alloc (.cells big 5)) w2.heap.size big 5 := Blk.new rfl
    have q0 : (w2.alloc (.cells big 5)).cell? ⟨w2.heap.size, 0, none⟩ = some (.int .u8 0) := by rw [hblk.cell]; exact hat 0 (by decide)
    have g0 := hblk.free 0
    have hset : Blk (w2.alloc (.cells (big.setIfInBounds 0 (.int .u8 c)) 5)) w2.heap.size (big.setIfInBounds 0 (.int .u8 c)) 5 := Blk.new rfl
    have hcur : ∀ j, j < 65537 → (big.setIfInBounds 0 (.int .u8 c))[j]? = some (.int .u8 (if j = 0 then c else 0)) := fun j hj => by
      rw [Array.getElem?_setIfInBounds]
      by_cases h0 : 0 = j
      · subst h0
        have h1 : 0 < big.size := by have := hat 0 (by decide); exact (Array.getElem?_eq_some_iff.1 this).1
        simp [h1]
      · rw [if_neg h0, hat j hj, if_neg (fun h => h0 h.symm)]
    obtain ⟨z1, hz1, hconv1⟩ := conv_any _ w2.heap.size 1 65536 65536 _ c hset (fun j h1 h2 => hcur j (by omega))
    have Hcur := Lib.hid hcur
    have Hset := Lib.hid hset
    clear hbig hat hblk hb1 hb2 hset hcur
    go_wp2_with fail
    have hbs : Below w0.heap.size w0 (w2.alloc (.cells (big.setIfInBounds 0 (.int .u8 c)) 5)) := HB2.out.alloc HB2.out.size _
    have hbs4 : Below w0.heap.size w0 ((w2.alloc (.cells (big.setIfInBounds 0 (.int .u8 c)) 5)).alloc (.cells #[.string z1] 9)) := hbs.alloc hbs.size _
    have hset4 : Blk ((w2.alloc (.cells (big.setIfInBounds 0 (.int .u8 c)) 5)).alloc (.cells #[.string z1] 9)) w2.heap.size (big.setIfInBounds 0 (.int .u8 c)) 5 := Hset.out.alloc _
    have hz1l : z1.data.toList.length = 65536 := hz1
    have hrow4 : Row ((w2.alloc (.cells (big.setIfInBounds 0 (.int .u8 c)) 5)).alloc (.cells #[.string z1] 9)) 1 (some ⟨w2.heap.size + 1, 0, none⟩) [z1.data.toList].length ([z1.data.toList].map strV) := Row.newN (by simp) rfl rfl
    have henc4 := encode_any (some ⟨w2.heap.size + 1, 0, none⟩) 1 [z1.data.toList] _ (HG.out.ext hbs4) hrow4 (by simp)
    have Hz1l := Lib.hid hz1l
    clear hz1l hrow4 hbs
    refine henc4.mono ?_
    clear henc4
    rintro e w4 ⟨v, rfl, hb4, henc⟩
    rcases henc with ⟨-, rfl⟩ | ⟨hno, _⟩
    rotate_left
    · exact absurd (by intro x hx; simp at hx; rw [hx, Hz1l.out]; exact Nat.le_refl _) hno
    obtain ⟨u, hu⟩ : ∃ u : ByteArray, u = ⟨(encL [z1.data.toList]).toArray⟩ := ⟨_, rfl⟩
    have hus : u.size = 65561 := by
      have h1 : (Lib.decDigits 65536).length = 5 := by rw [Lib.decDigits_length]; exact Lib.nDigits_unique 4 65536 (by decide) (by decide)
      have h2 : u.size = (encL [z1.data.toList]).length := by rw [hu]; simp [ByteArray.size]
      rw [h2]
      simp only [encL, headL, List.length_append, List.length_nil, Hz1l.out, h1]
      rfl
    have hue : strV (encL [z1.data.toList]) = .string u := by rw [hu]; rfl
    rw [hue]
    have hset5 := hset4.ext hb4
    obtain ⟨z2, hz2, hconv2⟩ := conv_any w4 w2.heap.size 0 65537 65537 _ c hset5 (fun j h1 h2 => Hcur.out j (by omega))
    have HB4 := Lib.hid (hbs4.trans (hb4.mono hbs4.size))
    clear hu hue hset5 hset4 hb4 hbs4 hconv1 q0 g0 hmk
    go_wp2_with fail
    have hbs6 : Below w0.heap.size w0 (w4.alloc (.cells #[.string { data := #[] }, .string z2] 9)) := HB4.out.alloc HB4.out.size _
    have hrow6 : Row (w4.alloc (.cells #[.string { data := #[] }, .string z2] 9)) 1 (some ⟨w4.heap.size, 0, none⟩) [[], z2.data.toList].length ([[], z2.data.toList].map strV) := Row.newN rfl rfl rfl
    have henc6 := encode_any (some ⟨w4.heap.size, 0, none⟩) 2 [[], z2.data.toList] _ (HG.out.ext hbs6) hrow6 (by simp)
    have hz2l : z2.data.toList.length = 65537 := hz2
    have Hz2l := Lib.hid hz2l
    clear hz2l hrow6 hconv2
    refine henc6.mono ?_
    clear henc6
    rintro e w6 ⟨v, rfl, hb6, henc⟩
    rcases henc with ⟨hyes, _⟩ | ⟨-, rfl⟩
    · have := hyes z2.data.toList (by simp)
      rw [Hz2l.out] at this
      exact absurd this (by decide)
    have HB6 := Lib.hid (hbs6.trans (hb6.mono hbs6.size))
    have hsn : strV [] = .string { data := #[] } := rfl
    rw [hsn]
    clear hbs6 hb6 hsn
    go_wp2_with fail
    refine (alive_any w6 (HG.out.ext HB6.out)).mono ?_
    rintro e w7 ⟨v, rfl, hb7, bb, rfl, hbt⟩
    obtain rfl : bb = true := hbt.2 trivial
    have HB7 := Lib.hid (HB6.out.trans (hb7.mono HB6.out.size))
    clear hb7 hbt
    go_wp2
    go_ret
    exact ⟨_, rfl, HB7.out, isB_true trivial⟩
end Go.Proofs.YtgfkgcnnjehmlaaDoor
