/- quote: a text between quotes; walked. number: one that comes; walked. made, and a value without parts: walked. A list's, or a record's, parts in the making; a key: walked. key, walked. What parts holds while it adds a value; its deferred call; walked. parts: too deep, and without parts; walked. -/
import Derived.Test.YthnbeebilomchaaGreatDoorMb1
import Derived.Shelf.Strconv.ErrVarAll
import Derived.Defers
namespace Go.Proofs.YthnbeebilomchaaGreatDoor
open Go Go.RowKit

theorem builderAt_congr {T e : TypeId} {B b : Nat} {p : Value} {bs : List Value} {w w' : World} (h : Lib.BuilderAt T e B b p bs w) (hb : ∀ k, B ≤ k → k < w.heap.size → w'.heap[k]? = w.heap[k]?) : Lib.BuilderAt T e B b p bs w' := by
  obtain ⟨h1, v, h2, h3, h4⟩ := h
  refine ⟨h1, v, (hb b h1 (Array.getElem?_eq_some_iff.1 h2).1).trans h2, ⟨h3.1, ?_⟩, h4⟩
  rcases h3.2 with h5 | ⟨g, cap, cur, r1, r2, r3, r4⟩
  · exact .inl h5
  · exact .inr ⟨g, cap, cur, r1, r2, (hb g r2 (Array.getElem?_eq_some_iff.1 r3).1).trans r3, r4⟩
theorem builder_congr {T e : TypeId} {B b : Nat} {bs : List Value} {w w' : World} (h : Lib.IsBuilder T e B b bs w) (hb : ∀ k, B ≤ k → k < w.heap.size → w'.heap[k]? = w.heap[k]?) : Lib.IsBuilder T e B b bs w' :=
  h.elim (fun k => .inl (builderAt_congr k hb)) (fun k => .inr (builderAt_congr k hb))
theorem builder_ext {T e : TypeId} {B b : Nat} {bs : List Value} {w w' : World} (h : Lib.IsBuilder T e B b bs w) (hb : Below w.heap.size w w') : Lib.IsBuilder T e B b bs w' := builder_congr h fun k _ hk => hb.block k hk
theorem builder_keep {T e : TypeId} {B b r : Nat} {bs : List Value} {w w' : World} (h : Lib.IsBuilder T e B b bs w) (hb : Keep r w w') (hr : r < B) : Lib.IsBuilder T e B b bs w' := builder_congr h fun k hk hl => hb.2 k hl (by omega)
theorem scalarB_len (n : Nat) : (scalarB n).length ≤ 4 := by
  unfold scalarB
  repeat' split
  all_goals simp
theorem unit4_len4 {s r : Nm} {a : Nat} (h : unit4 s = some (a, r)) : r.length + 4 = s.length := by
  unfold unit4 at h
  split at h
  · split at h
    · cases h; simp only [List.length_cons]
    · cases h
  · cases h
theorem escaped_sum {s x r : Nm} (h : escaped s = some (x, r)) : x.length + r.length ≤ s.length := by
  cases s with
  | nil => cases h
  | cons c s =>
    simp only [escaped] at h
    split at h
    · injection h with h
      injection h with e1 e2
      rw [← e1, ← e2]; simp only [List.length_cons, List.length_nil]; omega
    · split at h
      · cases h
      · split at h
        · cases h
        · rename_i a r1 h1
          have l1 := unit4_len4 h1
          split at h
          · injection h with h
            injection h with e1 e2
            have := scalarB_len a
            rw [← e1, ← e2]; simp only [List.length_cons]; omega
          · split at h
            · cases h
            · rename_i r2 h2
              have l2 := takes_len h2
              split at h
              · cases h
              · rename_i b r3 h3
                have l3 := unit4_len4 h3
                split at h
                · injection h with h
                  injection h with e1 e2
                  have := scalarB_len (pairN a b)
                  rw [← e1, ← e2]; simp only [List.length_cons]; omega
                · cases h
theorem Keep.low {b B : Nat} {w w1 w' : World} (h : Keep b w w1) (k : Below B w1 w') (hB : w.heap.size ≤ B) : Keep b w w' :=
  ⟨h.1.trans (k.mono (Nat.zero_le _)), h.2.trans (But.of (k.mono hB))⟩
theorem RdAt.low {w w' : World} {b B : Nat} {s : Nm} {o : Int} (h : RdAt w b s o) (k : Below B w w') (hb : b < B) : RdAt w' b s o := Blk.below h k hb
/-- how long the text is that a reader at b holds -/
def leftAt (w : World) (b : Nat) : Nat := match w.cell? ⟨b, 0, none⟩ with | some (.string z) => z.size | _ => 0
theorem leftAt_of {w : World} {b : Nat} {s : Nm} {o : Int} (h : RdAt w b s o) : leftAt w b = s.length := by unfold leftAt; rw [h.c0]; simp only; exact size_nm s
theorem strL_cons (f : Nat) (acc : Nm) (c : UInt8) (r : Nm) : strL (f + 1) acc (c :: r) = if c < 32 then none
    else if c = 34 then some (acc, r)
    else if c = 92 then (match escaped r with | none => none | some (x, r) => strL f (acc ++ x) r)
    else strL f (acc ++ [c]) r := by first | (rw [strL]; done) | (rw [strL]; rfl)

/-- what quote comes to -/
def QuE (w : World) (b : Nat) (o : Int) (res : Option (Nm × Nm)) (e : Ending) (w' : World) : Prop :=
  match res with
  | none => ScN w b o e w'
  | some (x, t) => ScE w b o (.tuple #[strV x, .bool true]) t e w'
theorem quE_none {w : World} {b : Nat} {o : Int} {res : Option (Nm × Nm)} {e : Ending} {w' : World} (h : res = none) (k : ScN w b o e w') : QuE w b o res e w' := by rw [h]; exact k
theorem quE_some {w : World} {b : Nat} {o : Int} {res : Option (Nm × Nm)} {e : Ending} {w' : World} {x t : Nm} (h : res = some (x, t)) (k : ScE w b o (.tuple #[strV x, .bool true]) t e w') : QuE w b o res e w' := by rw [h]; exact k
theorem quote_none (b : Nat) (s : Nm) (o : Int) (w : World) (h : RdAt w b s o) (ht : takes [34] s = none) : Calls Tryz.prog 100 #[.pointer (some ⟨b, 0, none⟩)] w (QuE w b o (quoteL s)) := by
  have hq : quoteL s = none := by unfold quoteL; rw [ht]
  have hc := takes_no b s [34] o w h ht
  have Hc := Lib.hid hc
  have Hq := Lib.hid hq
  clear h ht hc hq
  go_enter Tryz.func100, Tryz.ntmps100
  go_wp2_with fail
  refine Hc.out.mono ?_
  rintro e w1 ⟨rfl, hk, hr⟩
  have HK := Lib.hid hk
  have HR := Lib.hid hr
  clear hk hr Hc
  go_wp2
  go_ret2
  exact quE_none Hq.out (scN_nil HK.out HR.out)

set_option maxHeartbeats 4000000 in
theorem quote_some (b : Nat) (s s1 : Nm) (o : Int) (w : World) (h : RdAt w b s o) (hs : s.length ≤ 1048576) (ht : takes [34] s = some s1) : Calls Tryz.prog 100 #[.pointer (some ⟨b, 0, none⟩)] w (QuE w b o (quoteL s)) := by
  have hq : quoteL s = strL (s1.length + 1) [] s1 := by unfold quoteL; rw [ht]
  have hs1 : s1.length ≤ 1048576 := by have := takes_len ht; omega
  have hc := takes_yes b s [34] s1 o w h ht
  have Hc := Lib.hid hc
  have hbl := Blk.lt h
  rw [hq]
  obtain ⟨res, hres⟩ : ∃ res, res = strL (s1.length + 1) [] s1 := ⟨_, rfl⟩
  rw [← hres]
  have Hres := Lib.hid hres
  clear h ht hc hq hres
  go_enter Tryz.func100, Tryz.ntmps100
  go_wp2_with fail
  refine Hc.out.mono ?_
  rintro e w1 ⟨rfl, hk, hr⟩
  have HK := Lib.hid hk
  have HR := Lib.hid hr
  have hb1 : b < w1.heap.size := Nat.lt_of_lt_of_le hbl hk.size
  have hz1 := hk.size
  clear hk hr Hc
  go_wp2_with fail
  go_loopw [2, 3] (fun _ _ wr => ∃ (acc t : Nm), acc.length + t.length ≤ 1048576 ∧ Hid (res = strL (t.length + 1) acc t) ∧ Hid (RdAt wr b t o) ∧ Hid (Lib.IsBuilder 146 5 w1.heap.size w1.heap.size (Lib.byteCells acc) wr) ∧ Hid (Keep b w wr) ∧ w1.heap.size ≤ wr.heap.size) (fun _ _ wr => leftAt wr b)
  case atStart => exact ⟨[], s1, by simpa using hs1, Hres, Lib.hid (HR.out.ext (below_a1 _ _)), Lib.hid (Lib.fresh_isBuilder _ _ _), Lib.hid (HK.out.alloc _), by simp⟩
  case round =>
    obtain ⟨acc, t, hl, hq, hr, hbu, hk, hz⟩ := hrel
    have c0 := hr.out.c0
    have f0 := Blk.free hr.out 0
    cases t with
    | nil =>
      have hnone : res = none := by rw [hq.out, strL]
      have Hn := Lib.hid hnone
      clear hnone
      go_wp2
      all_goals go_ret2
      all_goals exact quE_none Hn.out (scN_nil hk.out hr.out)
    | cons c r =>
      obtain ⟨z, hz0, hz', hzs, hzc, hze, hzl, hzl2⟩ := open_cons c r
      rw [← hz'] at c0
      have hzn : (0 : Int) < z.size := by omega
      have hzn1 : (1 : Int) ≤ z.size := by omega
      have hcc : ((z[0].toNat : Nat) : Int) = (c.toNat : Int) := by rw [hzc]
      have hq2 := hq.out
      rw [List.length_cons, strL_cons] at hq2
      simp only [List.length_cons] at hl
      have hlt32 : c < 32 ↔ c.toNat < 32 := UInt8.lt_iff_toNat_lt
      clear hz' hzs hzc hq
      by_cases h32 : c < 32
      · rw [if_pos h32] at hq2
        have Hn := Lib.hid hq2
        have hc32 : (c.toNat : Int) < 32 := by have := hlt32.1 h32; omega
        clear hq2 hlt32 h32
        go_wp2
        all_goals go_ret2
        all_goals exact quE_none Hn.out (scN_nil hk.out hr.out)
      · rw [if_neg h32] at hq2
        have hc32 : (32 : Int) ≤ (c.toNat : Int) := by have : ¬ c.toNat < 32 := fun h => h32 (hlt32.2 h); omega
        have hrp := hr.out.put r
        have HRp := Lib.hid hrp
        have hkp := hk.out.set 0 (.string ⟨r.toArray⟩)
        have HKp := Lib.hid hkp
        have hbp : Lib.IsBuilder 146 5 w1.heap.size w1.heap.size (Lib.byteCells acc) (wr.setCell ⟨b, 0, none⟩ (.string ⟨r.toArray⟩)) := builder_keep hbu.out ((Keep.refl b wr).set 0 _) hb1
        have HBp := Lib.hid hbp
        clear hrp hkp hbp hlt32 h32
        by_cases h34 : c = 34
        · rw [if_pos h34] at hq2
          have Hn := Lib.hid hq2
          have hc34 : ((c.toNat : Int) == 34) = true := by first | (rw [h34]; done) | (rw [h34]; rfl)
          clear hq2 h34
          go_wp2_with fail
          refine (Tryz.Builder_String_any w1.heap.size w1.heap.size acc _ HBp.out (by simpa using hz)).mono ?_
          rintro e w2 ⟨rfl, hb2⟩
          have HK2 := Lib.hid (HKp.out.low hb2 hz1)
          have HR2 := Lib.hid (HRp.out.low hb2 hb1)
          clear hb2
          go_wp2
          go_ret2
          exact quE_some Hn.out ⟨rfl, HK2.out, HR2.out⟩
        · rw [if_neg h34] at hq2
          have hn34 : ¬ (c.toNat : Int) = 34 := fun he => h34 (UInt8.toNat_inj.1 (by have : (34 : UInt8).toNat = 34 := rfl; omega))
          have hc34 : ((c.toNat : Int) == 34) = false := by simpa using hn34
          by_cases h92 : c = 92
          · rw [if_pos h92] at hq2
            have hc92 : ((c.toNat : Int) == 92) = true := by first | (rw [h92]; done) | (rw [h92]; rfl)
            clear h34 h92 hn34
            cases he : escaped r with
            | none =>
              rw [he] at hq2
              simp only at hq2
              have Hn := Lib.hid hq2
              have He := Lib.hid he
              clear hq2 he
              go_wp2_with fail
              refine (escaped_no b r o _ HRp.out (by omega) He.out).mono ?_
              rintro e w2 ⟨x2, t2, rfl, hk2, hr2⟩
              have HK2 := Lib.hid (HKp.out.trans hk2)
              have HR2 := Lib.hid hr2
              clear hk2 hr2
              unfold strV
              go_wp2
              go_ret2
              exact quE_none Hn.out (scN_nil HK2.out HR2.out)
            | some p =>
              obtain ⟨x, t2⟩ := p
              rw [he] at hq2
              simp only at hq2
              have hsum := escaped_sum he
              have hlen2 := escaped_len he
              have hq3 : res = strL (t2.length + 1) (acc ++ x) t2 := by rw [hq2]; exact strL_fuel _ _ _ _ (by omega) (by omega)
              have Hn := Lib.hid hq3
              have He := Lib.hid he
              clear hq2 he hq3
              go_wp2_with fail
              refine (escaped_yes b r x t2 o _ HRp.out (by omega) He.out).mono ?_
              rintro e w2 ⟨rfl, hk2, hr2⟩
              have hz2 : w1.heap.size ≤ w2.heap.size := Nat.le_trans (by simpa using hz) hk2.size
              have HB2 := Lib.hid (builder_keep HBp.out hk2 hb1)
              have HK2 := Lib.hid (HKp.out.trans hk2)
              have HR2 := Lib.hid hr2
              have hxs := size_nm x
              clear hk2 hr2
              unfold strV
              obtain ⟨y, hy⟩ : ∃ y : ByteArray, y = ⟨x.toArray⟩ := ⟨_, rfl⟩
              rw [← hy] at hxs ⊢
              have hcells : Lib.byteCells acc ++ Lib.strCells y = Lib.byteCells (acc ++ x) := by rw [hy]; simp [Lib.byteCells, Lib.strCells]
              have Hcells := Lib.hid hcells
              have hys : (Lib.byteCells acc).length + y.size ≤ 140737488355328 := by rw [Lib.byteCells_length]; omega
              clear hy hcells
              go_wp2_with fail
              refine (write_any w1.heap.size w1.heap.size (Lib.byteCells acc) y w2 HB2.out hys hz2).mono ?_
              rintro e w3 ⟨rfl, hat, hb3⟩
              rw [Hcells.out] at hat
              have HK3 := Lib.hid (HK2.out.low hb3 hz1)
              have HR3 := Lib.hid (HR2.out.low hb3 hb1)
              have HB3 : Hid (Lib.IsBuilder 146 5 w1.heap.size w1.heap.size (Lib.byteCells (acc ++ x)) w3) := Lib.hid (.inr hat)
              have hz3 : w1.heap.size ≤ w3.heap.size := Nat.le_trans hz2 hb3.size
              have Hm : Hid (leftAt w3 b < leftAt wr b) := Lib.hid (by rw [leftAt_of HR3.out, leftAt_of hr.out, List.length_cons]; omega)
              have hl3 : (acc ++ x).length + t2.length ≤ 1048576 := by rw [List.length_append]; omega
              clear hat hb3 hxs hys
              go_wp2
              go_roundw
              case rel => exact ⟨acc ++ x, t2, hl3, Hn, HR3, HB3, HK3, hz3⟩
              case measure => exact Hm.out
          · rw [if_neg h92] at hq2
            have hn92 : ¬ (c.toNat : Int) = 92 := fun he => h92 (UInt8.toNat_inj.1 (by have : (92 : UInt8).toNat = 92 := rfl; omega))
            have hc92 : ((c.toNat : Int) == 92) = false := by simpa using hn92
            have Hn := Lib.hid hq2
            have hcells : Lib.byteCells acc ++ [Value.int .u8 c.toNat] = Lib.byteCells (acc ++ [c]) := by simp [Lib.byteCells]
            have Hcells := Lib.hid hcells
            have hys : (Lib.byteCells acc).length + 1 ≤ 140737488355328 := by rw [Lib.byteCells_length]; omega
            clear h34 h92 hn34 hn92 hq2 hcells
            go_wp2_with fail
            refine (writeB_any w1.heap.size w1.heap.size (Lib.byteCells acc) c.toNat _ HBp.out hys (by simpa using hz)).mono ?_
            rintro e w3 ⟨rfl, hat, hb3⟩
            rw [Hcells.out] at hat
            have HK3 := Lib.hid (HKp.out.low hb3 hz1)
            have HR3 := Lib.hid (HRp.out.low hb3 hb1)
            have HB3 : Hid (Lib.IsBuilder 146 5 w1.heap.size w1.heap.size (Lib.byteCells (acc ++ [c])) w3) := Lib.hid (.inr hat)
            have hz3 : w1.heap.size ≤ w3.heap.size := Nat.le_trans (by simpa using hz) hb3.size
            have Hm : Hid (leftAt w3 b < leftAt wr b) := Lib.hid (by rw [leftAt_of HR3.out, leftAt_of hr.out, List.length_cons]; omega)
            have hl3 : (acc ++ [c]).length + r.length ≤ 1048576 := by rw [List.length_append, List.length_cons, List.length_nil]; omega
            clear hat hb3 hys
            go_wp2
            go_roundw
            case rel => exact ⟨acc ++ [c], r, hl3, Hn, HR3, HB3, HK3, hz3⟩
            case measure => exact Hm.out
theorem quote_any (b : Nat) (s : Nm) (o : Int) (w : World) (h : RdAt w b s o) (hs : s.length ≤ 1048576) : Calls Tryz.prog 100 #[.pointer (some ⟨b, 0, none⟩)] w (QuE w b o (quoteL s)) := by
  cases ht : takes [34] s with
  | none => exact quote_none b s o w h ht
  | some s1 => exact quote_some b s s1 o w h hs ht
end Go.Proofs.YthnbeebilomchaaGreatDoor

namespace Go.Proofs.YthnbeebilomchaaGreatDoor
open Go Go.RowKit

theorem atoi_range {l : Nm} {n : Int} (h : Lib.atoiAll l = .ok n) : -9223372036854775808 ≤ n ∧ n ≤ 9223372036854775807 := by
  cases l with
  | nil => simp [Lib.atoiAll] at h
  | cons c r =>
    simp only [Lib.atoiAll] at h
    split at h
    · cases h
    · cases h
    · rename_i u hu
      split at h
      · cases h
      · rename_i h1
        split at h
        · cases h
        · rename_i h2
          injection h with h
          split at h
          · rename_i h3
            have : ¬ 9223372036854775808 < u := fun h4 => h2 ⟨h3, h4⟩
            omega
          · rename_i h3
            have : ¬ 9223372036854775808 ≤ u := fun h4 => h1 ⟨h3, h4⟩
            omega
/-- what Atoi hands back where it fails -/
def AtoiBad (w : World) (e : Ending) (w' : World) : Prop := ∃ (m : Int) (N : Nat), e = .returned (.tuple #[.int .i64 m, .iface 213 (.pointer (some ⟨N, 0, none⟩))]) ∧ Below w.heap.size w w'
theorem atoi_bad (s : ByteArray) (w : World) (hG : Glob w) (hs : s.size ≤ 1048576) (h : ∀ n, Lib.atoiAll s.data.toList ≠ .ok n) : Calls Tryz.prog 117 #[.string s] w (AtoiBad w) := by
  cases ha : Lib.atoiAll s.data.toList with
  | ok n => exact absurd ha (h n)
  | range =>
    obtain ⟨tp, p, hv⟩ := hG.rng
    refine (Tryz.strconv_Atoi_range_var s (by omega) ha tp p w hv).mono ?_
    rintro e w' ⟨N, rfl, -, -, hb⟩
    exact ⟨_, N, rfl, hb⟩
  | _ =>
    obtain ⟨tp, p, hv⟩ := hG.syn
    refine (Any.strconv_Atoi_syntax_var Tryz.laysC172 s (by omega) ha tp p w hv).mono ?_
    rintro e w' ⟨N, rfl, -, -, hb⟩
    exact ⟨_, N, rfl, hb⟩
theorem atoi_good (s : ByteArray) (w : World) (hs : s.size ≤ 1048576) (n : Int) (h : Lib.atoiAll s.data.toList = .ok n) : Calls Tryz.prog 117 #[.string s] w (fun e w' => e = .returned (.tuple #[.int .i64 n, .nilIface]) ∧ Below w.heap.size w w') := by
  refine (Tryz.strconv_Atoi_ok s (by omega) n h w).mono ?_
  rintro e w' ⟨rfl, hw⟩
  refine ⟨rfl, ?_⟩
  rcases hw with rfl | ⟨t', rfl⟩
  · exact Below.refl _ _
  · exact Lib.bytesWorld_below _ _ _
theorem itoa_any (n : Int) (w : World) (hG : Glob w) (h : -9223372036854775808 ≤ n ∧ n ≤ 9223372036854775807) : Calls Tryz.prog 70 #[.int .i64 n] w (fun e w' => e = .returned (.string ⟨(Lib.itoa n).toArray⟩) ∧ Below w.heap.size w w') := by
  refine (Tryz.strconv_Itoa n h.1 h.2 w hG.tab).mono ?_
  rintro e w' ⟨rfl, k, os, hw⟩
  exact ⟨rfl, by rw [hw]; exact Lib.below_grow _ _ (Nat.le_refl _) _ _⟩
theorem figs_eq (s : Nm) : (s.dropWhile fun x => ([48, 49, 50, 51, 52, 53, 54, 55, 56, 57] : Nm).contains x) = s.dropWhile isFig := by
  congr 1
  funext c
  rw [Bool.eq_iff_iff, isFig_iff]
  simp only [List.contains_cons, List.contains_nil, Bool.or_false, Bool.or_eq_true, beq_iff_eq, ← UInt8.toNat_inj]
  have h0 : (48 : UInt8).toNat = 48 := rfl
  have h1 : (49 : UInt8).toNat = 49 := rfl
  have h2 : (50 : UInt8).toNat = 50 := rfl
  have h3 : (51 : UInt8).toNat = 51 := rfl
  have h4 : (52 : UInt8).toNat = 52 := rfl
  have h5 : (53 : UInt8).toNat = 53 := rfl
  have h6 : (54 : UInt8).toNat = 54 := rfl
  have h7 : (55 : UInt8).toNat = 55 := rfl
  have h8 : (56 : UInt8).toNat = 56 := rfl
  have h9 : (57 : UInt8).toNat = 57 := rfl
  omega
/-- the text behind a minus -/
def noMinus (s : Nm) : Nm := match takes [45] s with | some r => r | none => s
theorem minus_any (s : Nm) (w : World) : Calls Tryz.prog 116 #[.string ⟨s.toArray⟩, .string { data := #[45] }] w fun e w' => e = .returned (.string ⟨(noMinus s).toArray⟩) ∧ w' = w := by
  have h1 := Tryz.strings_TrimPrefix ⟨s.toArray⟩ ⟨([45] : Nm).toArray⟩ w
  rw [data_nm, data_nm] at h1
  have e : Lib.trimPrefix s [45] = noMinus s := by
    unfold noMinus
    cases h : takes [45] s with
    | none => exact (cut_none h).2
    | some r => exact (cut_some h).2
  rw [e] at h1
  exact h1
theorem figs_any (s : Nm) (w : World) : Calls Tryz.prog 95 #[.string ⟨s.toArray⟩, .string { data := #[48, 49, 50, 51, 52, 53, 54, 55, 56, 57] }] w (Ret w (fun v _ => v = .string ⟨(s.dropWhile isFig).toArray⟩)) := by
  have := trim_any s [48, 49, 50, 51, 52, 53, 54, 55, 56, 57] w (by decide) (by decide)
  rw [figs_eq] at this
  exact this

/-- what number comes to -/
def NuE (w : World) (b : Nat) (o : Int) (res : Option (Int × Nm)) (e : Ending) (w' : World) : Prop :=
  match res with
  | none => ∃ (m : Int) (t : Nm), e = .returned (.tuple #[.int .i64 m, .bool false]) ∧ Keep b w w' ∧ RdAt w' b t o
  | some (n, t) => ScE w b o (.tuple #[.int .i64 n, .bool true]) t e w'
theorem nuE_none {w : World} {b : Nat} {o : Int} {res : Option (Int × Nm)} {w' : World} {m : Int} {t : Nm} (h : res = none) (h1 : Keep b w w') (h2 : RdAt w' b t o) : NuE w b o res (.returned (.tuple #[.int .i64 m, .bool false])) w' := by rw [h]; exact ⟨m, t, rfl, h1, h2⟩
theorem nuE_some {w : World} {b : Nat} {o : Int} {res : Option (Int × Nm)} {w' : World} {n : Int} {t : Nm} (h : res = some (n, t)) (h1 : Keep b w w') (h2 : RdAt w' b t o) : NuE w b o res (.returned (.tuple #[.int .i64 n, .bool true])) w' := by rw [h]; exact ⟨rfl, h1, h2⟩
theorem numRest_eq (s : Nm) : numRest s = (noMinus s).dropWhile isFig := by unfold numRest noMinus; rfl

set_option maxHeartbeats 2000000 in
theorem number_any (b : Nat) (s : Nm) (o : Int) (w : World) (hG : Glob w) (hb : 8 ≤ b) (h : RdAt w b s o) (hs : s.length ≤ 1048576) : Calls Tryz.prog 102 #[.pointer (some ⟨b, 0, none⟩)] w (NuE w b o (numL s)) := by
  have c0 := h.c0
  have H := Lib.hid h
  have HG := Lib.hid hG
  have hz := size_nm s
  have hy := size_nm (numRest s)
  have hle := numRest_len s
  have het := ext_to s (s.length - (numRest s).length)
  have Hm := Lib.hid (minus_any s)
  have Hf := Lib.hid (figs_any (noMinus s))
  rw [← numRest_eq] at Hf
  have hnum : numL s = match Lib.atoiAll (numHead s) with
    | .ok n => if Lib.itoa n = numHead s ∧ -9007199254740992 ≤ n ∧ n ≤ 9007199254740992 then some (n, numRest s) else none
    | _ => none := rfl
  have hhd : s.take (s.length - (numRest s).length) = numHead s := rfl
  rw [hhd] at het
  have hqs : (numHead s).length ≤ 1048576 := by unfold numHead; rw [List.length_take]; omega
  have hq := size_nm (numHead s)
  obtain ⟨res, hres⟩ : ∃ res, res = numL s := ⟨_, rfl⟩
  rw [← hres] at hnum ⊢
  clear hres hhd h hG
  have hRd : Hid (∀ w', Below w.heap.size w w' → RdAt w' b s o) := Lib.hid fun w' hw => H.out.ext hw
  generalize numRest s = t at *
  generalize numHead s = hd at *
  generalize noMinus s = nm at *
  obtain ⟨z, hze⟩ : ∃ z : ByteArray, z = ⟨s.toArray⟩ := ⟨_, rfl⟩
  obtain ⟨y, hye⟩ : ∃ y : ByteArray, y = ⟨t.toArray⟩ := ⟨_, rfl⟩
  obtain ⟨q, hqe⟩ : ∃ q : ByteArray, q = ⟨hd.toArray⟩ := ⟨_, rfl⟩
  rw [← hze] at c0 hz het Hm
  rw [← hye] at hy Hf
  rw [← hqe] at het hq
  have het2 : z.extract 0 (z.size - y.size) = q := by rw [hz, hy]; exact het
  have hyz : y.size ≤ z.size := by omega
  have hzs : z.size ≤ 1048576 := by omega
  have hqd : q.data.toList = hd := by rw [hqe, data_nm]
  have hqz : q.size ≤ 1048576 := by omega
  have Hye := Lib.hid hye
  have Hqe := Lib.hid hqe
  have hC : Hid (∀ w', Below w.heap.size w w' → w'.cell? ⟨b, 0, none⟩ = some (.string z) ∧ w'.frozen? ⟨b, 0, none⟩ = false) := Lib.hid fun w' hw => by
    rw [hze]; exact ⟨(hRd.out w' hw).c0, Blk.free (hRd.out w' hw) 0⟩
  have Het := Lib.hid het2
  have Hnum := Lib.hid hnum
  have Hqd := Lib.hid hqd
  clear hz hy hle het hq hye hqe hze het2 hnum hqd
  go_enter Tryz.func102, Tryz.ntmps102
  go_wp2_with fail
  refine (Hm.out _).mono ?_
  rintro e w1 ⟨rfl, rfl⟩
  go_wp2_with fail
  refine (Hf.out _).mono ?_
  rintro e w2 ⟨_, rfl, hb2, rfl⟩
  obtain ⟨c2, f2⟩ := hC.out w2 hb2
  have Hb2 := Lib.hid hb2
  have het2 := Het.out
  have HG2 := Lib.hid (HG.out.ext hb2)
  clear hb2 c0
  go_wp2_with fail
  go_quiet (fail)
  go_wp2_with fail
  generalize hW : w2.drewN _ = W
  have hbW : Below w1.heap.size w1 W := by rw [← hW]; exact below_drew Hb2.out _
  have HbW := Lib.hid hbW
  have HGW := Lib.hid (HG.out.ext hbW)
  clear hW hbW c2 f2 Hb2 HG2 het2
  cases ha : Lib.atoiAll q.data.toList with
  | ok n =>
    obtain ⟨r1, r2⟩ := atoi_range ha
    have hR : Hid (-9223372036854775808 ≤ n ∧ n ≤ 9223372036854775807) := Lib.hid ⟨r1, r2⟩
    have hres : res = if Lib.itoa n = q.data.toList ∧ -9007199254740992 ≤ n ∧ n ≤ 9007199254740992 then some (n, t) else none := by rw [Hnum.out, ← Hqd.out, ha]
    have Hres := Lib.hid hres
    have Ha := Lib.hid ha
    clear hres r1 r2 ha
    refine (atoi_good q W hqz n Ha.out).mono ?_
    rintro e w3 ⟨rfl, hb3⟩
    have hb3' := HbW.out.trans (hb3.mono HbW.out.size)
    have Hb3 := Lib.hid hb3'
    have HG3 := Lib.hid (HGW.out.ext hb3)
    obtain ⟨c3, f3⟩ := hC.out w3 hb3'
    have hr3 := (hRd.out w3 hb3').put t
    rw [← Hye.out] at hr3
    have hk3 := (((Keep.refl b w1).ext Hb3.out).set 0 (.string y))
    have HR3 := Lib.hid hr3
    have HK3 := Lib.hid hk3
    have HG4 := Lib.hid (hk3.glob HG.out hb)
    clear hb3 hb3' hr3 hk3
    go_wp2_with fail
    refine (itoa_any n _ HG4.out hR.out).mono ?_
    rintro e w4 ⟨rfl, hb4⟩
    have HR4 := Lib.hid (HR3.out.ext hb4)
    have HK4 := Lib.hid (HK3.out.ext hb4)
    obtain ⟨x, hx⟩ : ∃ x : ByteArray, x = ⟨(Lib.itoa n).toArray⟩ := ⟨_, rfl⟩
    rw [← hx]
    by_cases he : Lib.itoa n = q.data.toList
    · have hze : (x.toList == q.toList) = true := by
        rw [hx, Lib.toList_data, Lib.toList_data]; simpa using he
      have He := Lib.hid he
      clear hb4 hx he
      by_cases h1 : -9007199254740992 ≤ n
      · by_cases h2 : n ≤ 9007199254740992
        · have hs : res = some (n, t) := by rw [Hres.out, if_pos ⟨He.out, h1, h2⟩]
          have Hs := Lib.hid hs
          clear hs
          go_wp2
          go_ret2
          exact nuE_some Hs.out HK4.out HR4.out
        · have hs : res = none := by rw [Hres.out, if_neg (fun h => h2 h.2.2)]
          have Hs := Lib.hid hs
          have h3 : 9007199254740992 < n := by omega
          have h4 : decide (n ≤ 9007199254740992) = false := decide_eq_false h2
          clear hs
          go_wp2
          go_ret2
          exact nuE_none Hs.out HK4.out HR4.out
      · have hs : res = none := by rw [Hres.out, if_neg (fun h => h1 h.2.1)]
        have Hs := Lib.hid hs
        have h3 : n < -9007199254740992 := by omega
        clear hs
        go_wp2
        go_ret2
        exact nuE_none Hs.out HK4.out HR4.out
    · have hze : (x.toList == q.toList) = false := by
        rw [hx, Lib.toList_data, Lib.toList_data]; simpa using he
      have hs : res = none := by rw [Hres.out, if_neg (fun h => he h.1)]
      have Hs := Lib.hid hs
      clear hb4 hx he hs
      go_wp2
      go_ret2
      exact nuE_none Hs.out HK4.out HR4.out
  | _ =>
    have hres : res = none := by rw [Hnum.out, ← Hqd.out, ha]
    have Hres := Lib.hid hres
    have Ha := Lib.hid ha
    clear hres ha
    refine (atoi_bad q W HGW.out hqz (fun n h => by rw [Ha.out] at h; cases h)).mono ?_
    rintro e w3 ⟨m, N, rfl, hb3⟩
    have hb3' := HbW.out.trans (hb3.mono HbW.out.size)
    have Hb3 := Lib.hid hb3'
    obtain ⟨c3, f3⟩ := hC.out w3 hb3'
    have hr3 := (hRd.out w3 hb3').put t
    rw [← Hye.out] at hr3
    have HR3 := Lib.hid hr3
    have HK3 := Lib.hid (((Keep.refl b w1).ext Hb3.out).set 0 (.string y))
    clear hb3 hb3' hr3
    go_wp2
    go_ret2
    exact nuE_none Hres.out HK3.out HR3.out
end Go.Proofs.YthnbeebilomchaaGreatDoor

namespace Go.Proofs.YthnbeebilomchaaGreatDoor
open Go Go.RowKit

/-- a value without rows -/
def leafD (s : Int) (o : Bool) (n : Int) (t : Nm) : VD := .mk s o n t none 0 [] none 0 []
theorem leaf_v (s : Int) (o : Bool) (n : Int) (t : Nm) : (leafD s o n t).v = .mk s o n t [] [] := by simp [leafD, VD.v, vsOf]

/-- what a reader's function that reads a value comes to: the value, new; or an error -/
def VaE (w : World) (b : Nat) (o : Int) (res : Res) (e : Ending) (w' : World) : Prop :=
  match res with
  | .out => True
  | .err k => ∃ (d : VD) (t : Nm) (o' : Int), e = .returned (.tuple #[d.val, .int .i64 k]) ∧ Keep b w w' ∧ RdAt w' b t o' ∧ o ≤ o' ∧ o' ≤ o + 1
  | .ok v t => ∃ d : VD, e = .returned (.tuple #[d.val, .int .i64 0]) ∧ d.v = v ∧ ValAt w' (fun k => w.heap.size ≤ k) d ∧ Keep b w w' ∧ RdAt w' b t o
theorem vaE_err {w : World} {b : Nat} {o : Int} {res : Res} {w' : World} {k : Int} {t : Nm} {o' : Int} (h : res = .err k) (h1 : Keep b w w') (h2 : RdAt w' b t o') (hlo : o ≤ o' := by omega) (hhi : o' ≤ o + 1 := by omega) :
    VaE w b o res (.returned (.tuple #[.agg #[.int .i64 0, .bool false, .int .i64 0, .string { data := #[] }, .slice none 0 0, .slice none 0 0], .int .i64 k])) w' := by rw [h]; exact ⟨leafD 0 false 0 [], t, o', rfl, h1, h2, hlo, hhi⟩
theorem vaE_leaf {w : World} {b : Nat} {o : Int} {res : Res} {w' : World} {s : Int} {f : Bool} {n : Int} {x t : Nm} (h : res = .ok (.mk s f n x [] []) t) (h1 : Keep b w w') (h2 : RdAt w' b t o) :
    VaE w b o res (.returned (.tuple #[.agg #[.int .i64 s, .bool f, .int .i64 n, .string ⟨x.toArray⟩, .slice none 0 0, .slice none 0 0], .int .i64 0])) w' := by
  rw [h]; exact ⟨leafD s f n x, rfl, leaf_v _ _ _ _, .leaf, h1, h2⟩

theorem made_no (v0 v1 v2 v3 v4 v5 : Value) (w : World) : Calls Tryz.prog 101 #[.agg #[v0, v1, v2, v3, v4, v5], .bool false] w (Ret w fun v _ => v = .tuple #[.agg #[.int .i64 0, .bool false, .int .i64 0, .string { data := #[] }, .slice none 0 0, .slice none 0 0], .int .i64 21]) := by
  go_enter Tryz.func101, Tryz.ntmps101
  go_wp2
  refine bodyPost_ret (v := .tuple #[.agg #[.int .i64 0, .bool false, .int .i64 0, .string { data := #[] }, .slice none 0 0, .slice none 0 0], .int .i64 21]) (by simp [results, Tryz.results101, go_sem]) rfl ?_
  exact ⟨_, rfl, (below_a1 w _).alloc (by simp) _, rfl⟩
theorem made_yes (s : Int) (f : Bool) (n : Int) (x : ByteArray) (w : World) : Calls Tryz.prog 101 #[.agg #[.int .i64 s, .bool f, .int .i64 n, .string x, .slice none 0 0, .slice none 0 0], .bool true] w (Ret w fun v _ => v = .tuple #[.agg #[.int .i64 s, .bool f, .int .i64 n, .string x, .slice none 0 0, .slice none 0 0], .int .i64 0]) := by
  go_enter Tryz.func101, Tryz.ntmps101
  go_wp2
  refine bodyPost_ret (v := .tuple #[.agg #[.int .i64 s, .bool f, .int .i64 n, .string x, .slice none 0 0, .slice none 0 0], .int .i64 0]) (by simp [results, Tryz.results101, go_sem]) rfl ?_
  exact ⟨_, rfl, (below_a1 w _).alloc (by simp) _, rfl⟩

def zeroV : Array Value := #[.int .i64 0, .bool false, .int .i64 0, .string { data := #[] }, .slice none 0 0, .slice none 0 0]
theorem comes_one (s : Nm) : comes (fun c => ([34] : Nm).contains c) s = comes (· == 34) s := by
  cases s with
  | nil => rfl
  | cons c s =>
    simp only [comes]
    rw [Bool.eq_iff_iff]; simp
theorem comes_num (s : Nm) : comes (fun c => ([45, 48, 49, 50, 51, 52, 53, 54, 55, 56, 57] : Nm).contains c) s = comes (fun c => c == 45 || isFig c) s := by
  cases s with
  | nil => rfl
  | cons c s =>
    simp only [comes]
    rw [Bool.eq_iff_iff, Bool.or_eq_true, isFig_iff]
    simp only [List.contains_cons, List.contains_nil, Bool.or_false, Bool.or_eq_true, beq_iff_eq, ← UInt8.toNat_inj]
    have h45 : (45 : UInt8).toNat = 45 := rfl
    have h0 : (48 : UInt8).toNat = 48 := rfl
    have h1 : (49 : UInt8).toNat = 49 := rfl
    have h2 : (50 : UInt8).toNat = 50 := rfl
    have h3 : (51 : UInt8).toNat = 51 := rfl
    have h4 : (52 : UInt8).toNat = 52 := rfl
    have h5 : (53 : UInt8).toNat = 53 := rfl
    have h6 : (54 : UInt8).toNat = 54 := rfl
    have h7 : (55 : UInt8).toNat = 55 := rfl
    have h8 : (56 : UInt8).toNat = 56 := rfl
    have h9 : (57 : UInt8).toNat = 57 := rfl
    omega
theorem Keep.blk {b : Nat} {w w' : World} (h : Keep b w w') {g : Nat} {cs : Array Value} {T : TypeId} (k : Blk w g cs T) (hg : g ≠ b) : Blk w' g cs T := (h.block k.lt hg).trans k
/-- what is kept since before the block g was made -/
theorem Keep.since {b : Nat} {w w' : World} {o : Obj} (h : Keep b (w.alloc o) w') : Keep b w w' := (((Keep.refl b w).alloc o).trans h)
theorem Keep.put {b : Nat} {w w' : World} (h : Keep b w w') {g : Nat} (hg : w.heap.size ≤ g) (j : Nat) (u : Value) : Keep b w (w'.setCell ⟨g, j, none⟩ u) :=
  ⟨h.1.setCell (Nat.zero_le _) _, fun k hk hne => (Below.heap_setCell w' ⟨g, j, none⟩ u k (by show k ≠ g; omega)).trans (h.2 k hk hne)⟩

theorem store6 {w : World} {g : Nat} {v0 v1 v2 v3 v4 v5 u0 u1 u2 u3 u4 u5 : Value} {T : TypeId} (h : Blk w g #[v0, v1, v2, v3, v4, v5] T) :
    Blk ((((((w.setCell ⟨g, 0, none⟩ u0).setCell ⟨g, 1, none⟩ u1).setCell ⟨g, 2, none⟩ u2).setCell ⟨g, 3, none⟩ u3).setCell ⟨g, 4, none⟩ u4).setCell ⟨g, 5, none⟩ u5) g #[u0, u1, u2, u3, u4, u5] T :=
  ((((((h.set 0 u0).set 1 u1).set 2 u2).set 3 u3).set 4 u4).set 5 u5)
theorem Keep.put6 {b : Nat} {w w' : World} (h : Keep b w w') {g : Nat} (hg : w.heap.size ≤ g) (u0 u1 u2 u3 u4 u5 : Value) :
    Keep b w ((((((w'.setCell ⟨g, 0, none⟩ u0).setCell ⟨g, 1, none⟩ u1).setCell ⟨g, 2, none⟩ u2).setCell ⟨g, 3, none⟩ u3).setCell ⟨g, 4, none⟩ u4).setCell ⟨g, 5, none⟩ u5) :=
  ((((((h.put hg 0 u0).put hg 1 u1).put hg 2 u2).put hg 3 u3).put hg 4 u4).put hg 5 u5)
theorem RdAt.put6 {b : Nat} {w : World} {s : Nm} {o : Int} (h : RdAt w b s o) {g : Nat} (hg : b ≠ g) (u0 u1 u2 u3 u4 u5 : Value) :
    RdAt ((((((w.setCell ⟨g, 0, none⟩ u0).setCell ⟨g, 1, none⟩ u1).setCell ⟨g, 2, none⟩ u2).setCell ⟨g, 3, none⟩ u3).setCell ⟨g, 4, none⟩ u4).setCell ⟨g, 5, none⟩ u5) b s o :=
  ((((((Blk.other h (p := ⟨g, 0, none⟩) hg u0).other (p := ⟨g, 1, none⟩) hg u1).other (p := ⟨g, 2, none⟩) hg u2).other (p := ⟨g, 3, none⟩) hg u3).other (p := ⟨g, 4, none⟩) hg u4).other (p := ⟨g, 5, none⟩) hg u5)
set_option maxHeartbeats 2000000 in
theorem plain_text (b : Nat) (s : Nm) (o : Int) (w : World) (hG : Glob w) (_hb8 : 8 ≤ b) (h : RdAt w b s o) (hs : s.length ≤ 1048576) (hc : comes (· == 34) s = true) : Calls Tryz.prog 77 #[.pointer (some ⟨b, 0, none⟩)] w (VaE w b o (plainL s)) := by
  have hpl : plainL s = match quoteL s with | none => .err 21 | some (t, r) => .ok (.mk 3 false 0 t [] []) r := by unfold plainL; rw [hc]; rfl
  have Hpl := Lib.hid hpl
  have HG := Lib.hid hG
  obtain ⟨res, hres⟩ : ∃ res, res = plainL s := ⟨_, rfl⟩
  rw [← hres] at Hpl ⊢
  have hbl := Blk.lt h
  have h1 := comes_any b s [34] o (w.alloc (.cells zeroV 36)) (h.ext (below_a1 _ _))
  rw [comes_one, hc] at h1
  have H1 := Lib.hid h1
  have hg : w.heap.size ≠ b := by omega
  have hz0 : Blk (w.alloc (.cells zeroV 36)) w.heap.size zeroV 36 := Blk.new rfl
  have HZ0 := Lib.hid hz0
  unfold zeroV at H1
  clear hpl hres h1 hc h hz0 hG
  go_enter Tryz.func77, Tryz.ntmps77
  go_wp2_with fail
  refine H1.out.mono ?_
  rintro e w1 ⟨rfl, hk1, hr1⟩
  have HZ1 := Lib.hid (hk1.blk HZ0.out hg)
  have HK1 := Lib.hid hk1.since
  have HR1 := Lib.hid hr1
  clear hk1 hr1
  go_wp2_with fail
  refine (quote_any b s o w1 HR1.out hs).mono ?_
  cases hq : quoteL s with
  | none =>
    rintro e w2 ⟨x, t, rfl, hk2, hr2⟩
    have HZ2 := Lib.hid (hk2.blk HZ1.out hg)
    have HK2 := Lib.hid (HK1.out.trans hk2)
    have HR2 := Lib.hid hr2
    have hE : res = .err 21 := by rw [Hpl.out, hq]
    have HE := Lib.hid hE
    clear hk2 hr2 hE hq
    unfold strV
    go_wp2_with fail
    refine (made_no _ _ _ _ _ _ _).mono ?_
    rintro e w3 ⟨_, rfl, hb3, rfl⟩
    have hz3 := HZ2.out.ext hb3
    have HK3 := Lib.hid (HK2.out.ext hb3)
    have HR3 := Lib.hid (HR2.out.ext hb3)
    clear hb3
    have c0 := hz3.cell 0
    have c1 := hz3.cell 1
    have c2 := hz3.cell 2
    have c3 := hz3.cell 3
    have c4 := hz3.cell 4
    have c5 := hz3.cell 5
    have f0 := hz3.free 0
    have f1 := hz3.free 1
    have f2 := hz3.free 2
    have f3 := hz3.free 3
    have f4 := hz3.free 4
    have f5 := hz3.free 5
    unfold zeroV at c0 c1 c2 c3 c4 c5
    simp only [List.getElem?_toArray, List.getElem?_cons_zero, List.getElem?_cons_succ] at c0 c1 c2 c3 c4 c5
    have hlt := hz3.lt
    unfold zeroV at hz3
    have hst := store6 (u0 := .int .i64 0) (u1 := .bool false) (u2 := .int .i64 0) (u3 := .string { data := #[] }) (u4 := .slice none 0 0) (u5 := .slice none 0 0) hz3
    have hkp := HK3.out.put6 (Nat.le_refl w.heap.size) (.int .i64 0) (.bool false) (.int .i64 0) (.string { data := #[] }) (.slice none 0 0) (.slice none 0 0)
    have hrp := HR3.out.put6 hg.symm (.int .i64 0) (.bool false) (.int .i64 0) (.string { data := #[] }) (.slice none 0 0) (.slice none 0 0)
    have HST := Lib.hid hst
    have HKP := Lib.hid hkp
    have HRP := Lib.hid hrp
    clear hst hkp hrp hz3
    go_wp2
    generalize hW : ((((((w3.setCell ⟨w.heap.size, 0, none⟩ (.int .i64 0)).setCell ⟨w.heap.size, 1, none⟩ (.bool false)).setCell ⟨w.heap.size, 2, none⟩ (.int .i64 0)).setCell ⟨w.heap.size, 3, none⟩ (.string { data := #[] })).setCell ⟨w.heap.size, 4, none⟩ (.slice none 0 0)).setCell ⟨w.heap.size, 5, none⟩ (.slice none 0 0)) = W at *
    have d0 := HST.out.cell 0
    have d1 := HST.out.cell 1
    have d2 := HST.out.cell 2
    have d3 := HST.out.cell 3
    have d4 := HST.out.cell 4
    have d5 := HST.out.cell 5
    simp only [List.getElem?_toArray, List.getElem?_cons_zero, List.getElem?_cons_succ] at d0 d1 d2 d3 d4 d5
    refine bodyPost_ret (v := .tuple #[.agg #[.int .i64 0, .bool false, .int .i64 0, .string { data := #[] }, .slice none 0 0, .slice none 0 0], .int .i64 21]) (by simp [results, Tryz.results77, go_sem, d0, d1, d2, d3, d4, d5]) rfl ?_
    exact vaE_err HE.out HKP.out HRP.out
  | some p =>
    obtain ⟨x, t⟩ := p
    rintro e w2 ⟨rfl, hk2, hr2⟩
    have HZ2 := Lib.hid (hk2.blk HZ1.out hg)
    have HK2 := Lib.hid (HK1.out.trans hk2)
    have HR2 := Lib.hid hr2
    have hE : res = .ok (.mk 3 false 0 x [] []) t := by rw [Hpl.out, hq]
    have HE := Lib.hid hE
    clear hk2 hr2 hE hq
    unfold strV
    go_wp2_with fail
    refine (made_yes _ _ _ _ _).mono ?_
    rintro e w3 ⟨_, rfl, hb3, rfl⟩
    have hz3 := HZ2.out.ext hb3
    have HK3 := Lib.hid (HK2.out.ext hb3)
    have HR3 := Lib.hid (HR2.out.ext hb3)
    clear hb3
    have c0 := hz3.cell 0
    have c1 := hz3.cell 1
    have c2 := hz3.cell 2
    have c3 := hz3.cell 3
    have c4 := hz3.cell 4
    have c5 := hz3.cell 5
    have f0 := hz3.free 0
    have f1 := hz3.free 1
    have f2 := hz3.free 2
    have f3 := hz3.free 3
    have f4 := hz3.free 4
    have f5 := hz3.free 5
    unfold zeroV at c0 c1 c2 c3 c4 c5
    simp only [List.getElem?_toArray, List.getElem?_cons_zero, List.getElem?_cons_succ] at c0 c1 c2 c3 c4 c5
    have hlt := hz3.lt
    unfold zeroV at hz3
    have hst := store6 (u0 := .int .i64 3) (u1 := .bool false) (u2 := .int .i64 0) (u3 := .string ⟨x.toArray⟩) (u4 := .slice none 0 0) (u5 := .slice none 0 0) hz3
    have hkp := HK3.out.put6 (Nat.le_refl w.heap.size) (.int .i64 3) (.bool false) (.int .i64 0) (.string ⟨x.toArray⟩) (.slice none 0 0) (.slice none 0 0)
    have hrp := HR3.out.put6 hg.symm (.int .i64 3) (.bool false) (.int .i64 0) (.string ⟨x.toArray⟩) (.slice none 0 0) (.slice none 0 0)
    have HST := Lib.hid hst
    have HKP := Lib.hid hkp
    have HRP := Lib.hid hrp
    clear hst hkp hrp hz3
    go_wp2
    generalize hW : ((((((w3.setCell ⟨w.heap.size, 0, none⟩ (.int .i64 3)).setCell ⟨w.heap.size, 1, none⟩ (.bool false)).setCell ⟨w.heap.size, 2, none⟩ (.int .i64 0)).setCell ⟨w.heap.size, 3, none⟩ (.string ⟨x.toArray⟩)).setCell ⟨w.heap.size, 4, none⟩ (.slice none 0 0)).setCell ⟨w.heap.size, 5, none⟩ (.slice none 0 0)) = W at *
    have d0 := HST.out.cell 0
    have d1 := HST.out.cell 1
    have d2 := HST.out.cell 2
    have d3 := HST.out.cell 3
    have d4 := HST.out.cell 4
    have d5 := HST.out.cell 5
    simp only [List.getElem?_toArray, List.getElem?_cons_zero, List.getElem?_cons_succ] at d0 d1 d2 d3 d4 d5
    refine bodyPost_ret (v := .tuple #[.agg #[.int .i64 3, .bool false, .int .i64 0, .string ⟨x.toArray⟩, .slice none 0 0, .slice none 0 0], .int .i64 0]) (by simp [results, Tryz.results77, go_sem, d0, d1, d2, d3, d4, d5]) rfl ?_
    exact vaE_leaf HE.out HKP.out HRP.out
set_option maxHeartbeats 2000000 in
theorem plain_num (b : Nat) (s : Nm) (o : Int) (w : World) (hG : Glob w) (hb8 : 8 ≤ b) (h : RdAt w b s o) (hs : s.length ≤ 1048576) (hc : comes (· == 34) s = false) (hd : comes (fun c => c == 45 || isFig c) s = true) : Calls Tryz.prog 77 #[.pointer (some ⟨b, 0, none⟩)] w (VaE w b o (plainL s)) := by
  have hpl : plainL s = match numL s with | none => .err 21 | some (n, r) => .ok (.mk 2 false n [] [] []) r := by unfold plainL; rw [hc, hd]; rfl
  have Hpl := Lib.hid hpl
  have HG := Lib.hid hG
  obtain ⟨res, hres⟩ : ∃ res, res = plainL s := ⟨_, rfl⟩
  rw [← hres] at Hpl ⊢
  have hbl := Blk.lt h
  have h1 := comes_any b s [34] o (w.alloc (.cells zeroV 36)) (h.ext (below_a1 _ _))
  rw [comes_one, hc] at h1
  have H1 := Lib.hid h1
  have hg : w.heap.size ≠ b := by omega
  have hz0 : Blk (w.alloc (.cells zeroV 36)) w.heap.size zeroV 36 := Blk.new rfl
  have HZ0 := Lib.hid hz0
  unfold zeroV at H1
  have h2 : Hid (∀ w, RdAt w b s o → Calls Tryz.prog 99 #[.pointer (some ⟨b, 0, none⟩), .string { data := #[45, 48, 49, 50, 51, 52, 53, 54, 55, 56, 57] }] w (ScE w b o (.bool true) s)) := Lib.hid fun w hw => by
    have := comes_any b s [45, 48, 49, 50, 51, 52, 53, 54, 55, 56, 57] o w hw
    rw [comes_num, hd] at this; exact this
  clear hpl hres h1 hc h hz0 hG hd
  go_enter Tryz.func77, Tryz.ntmps77
  go_wp2_with fail
  refine H1.out.mono ?_
  rintro e w1 ⟨rfl, hk1, hr1⟩
  have HZ1 := Lib.hid (hk1.blk HZ0.out hg)
  have HK1 := Lib.hid hk1.since
  have HR1 := Lib.hid hr1
  clear hk1 hr1
  go_wp2_with fail
  refine (h2.out w1 HR1.out).mono ?_
  rintro e w9 ⟨rfl, hk, hr⟩
  have HZ9 := Lib.hid (hk.blk HZ1.out hg)
  have HK9 := Lib.hid (HK1.out.trans hk)
  have HR9 := Lib.hid hr
  clear hk hr
  have HG9 := Lib.hid (HK9.out.glob HG.out hb8)
  go_wp2_with fail
  refine (number_any b s o w9 HG9.out hb8 HR9.out hs).mono ?_
  cases hq : numL s with
  | none =>
    rintro e w2 ⟨m, t, rfl, hk2, hr2⟩
    have HZ2 := Lib.hid (hk2.blk HZ9.out hg)
    have HK2 := Lib.hid (HK9.out.trans hk2)
    have HR2 := Lib.hid hr2
    have hE : res = .err 21 := by rw [Hpl.out, hq]
    have HE := Lib.hid hE
    clear hk2 hr2 hE hq
    go_wp2_with fail
    refine (made_no _ _ _ _ _ _ _).mono ?_
    rintro e w3 ⟨_, rfl, hb3, rfl⟩
    have hz3 := HZ2.out.ext hb3
    have HK3 := Lib.hid (HK2.out.ext hb3)
    have HR3 := Lib.hid (HR2.out.ext hb3)
    clear hb3
    have c0 := hz3.cell 0
    have c1 := hz3.cell 1
    have c2 := hz3.cell 2
    have c3 := hz3.cell 3
    have c4 := hz3.cell 4
    have c5 := hz3.cell 5
    have f0 := hz3.free 0
    have f1 := hz3.free 1
    have f2 := hz3.free 2
    have f3 := hz3.free 3
    have f4 := hz3.free 4
    have f5 := hz3.free 5
    unfold zeroV at c0 c1 c2 c3 c4 c5
    simp only [List.getElem?_toArray, List.getElem?_cons_zero, List.getElem?_cons_succ] at c0 c1 c2 c3 c4 c5
    have hlt := hz3.lt
    unfold zeroV at hz3
    have hst := store6 (u0 := .int .i64 0) (u1 := .bool false) (u2 := .int .i64 0) (u3 := .string { data := #[] }) (u4 := .slice none 0 0) (u5 := .slice none 0 0) hz3
    have hkp := HK3.out.put6 (Nat.le_refl w.heap.size) (.int .i64 0) (.bool false) (.int .i64 0) (.string { data := #[] }) (.slice none 0 0) (.slice none 0 0)
    have hrp := HR3.out.put6 hg.symm (.int .i64 0) (.bool false) (.int .i64 0) (.string { data := #[] }) (.slice none 0 0) (.slice none 0 0)
    have HST := Lib.hid hst
    have HKP := Lib.hid hkp
    have HRP := Lib.hid hrp
    clear hst hkp hrp hz3
    go_wp2
    generalize hW : ((((((w3.setCell ⟨w.heap.size, 0, none⟩ (.int .i64 0)).setCell ⟨w.heap.size, 1, none⟩ (.bool false)).setCell ⟨w.heap.size, 2, none⟩ (.int .i64 0)).setCell ⟨w.heap.size, 3, none⟩ (.string { data := #[] })).setCell ⟨w.heap.size, 4, none⟩ (.slice none 0 0)).setCell ⟨w.heap.size, 5, none⟩ (.slice none 0 0)) = W at *
    have d0 := HST.out.cell 0
    have d1 := HST.out.cell 1
    have d2 := HST.out.cell 2
    have d3 := HST.out.cell 3
    have d4 := HST.out.cell 4
    have d5 := HST.out.cell 5
    simp only [List.getElem?_toArray, List.getElem?_cons_zero, List.getElem?_cons_succ] at d0 d1 d2 d3 d4 d5
    refine bodyPost_ret (v := .tuple #[.agg #[.int .i64 0, .bool false, .int .i64 0, .string { data := #[] }, .slice none 0 0, .slice none 0 0], .int .i64 21]) (by simp [results, Tryz.results77, go_sem, d0, d1, d2, d3, d4, d5]) rfl ?_
    exact vaE_err HE.out HKP.out HRP.out
  | some p =>
    obtain ⟨n, t⟩ := p
    rintro e w2 ⟨rfl, hk2, hr2⟩
    have HZ2 := Lib.hid (hk2.blk HZ9.out hg)
    have HK2 := Lib.hid (HK9.out.trans hk2)
    have HR2 := Lib.hid hr2
    have hE : res = .ok (.mk 2 false n [] [] []) t := by rw [Hpl.out, hq]
    have HE := Lib.hid hE
    clear hk2 hr2 hE hq
    go_wp2_with fail
    refine (made_yes _ _ _ _ _).mono ?_
    rintro e w3 ⟨_, rfl, hb3, rfl⟩
    have hz3 := HZ2.out.ext hb3
    have HK3 := Lib.hid (HK2.out.ext hb3)
    have HR3 := Lib.hid (HR2.out.ext hb3)
    clear hb3
    have c0 := hz3.cell 0
    have c1 := hz3.cell 1
    have c2 := hz3.cell 2
    have c3 := hz3.cell 3
    have c4 := hz3.cell 4
    have c5 := hz3.cell 5
    have f0 := hz3.free 0
    have f1 := hz3.free 1
    have f2 := hz3.free 2
    have f3 := hz3.free 3
    have f4 := hz3.free 4
    have f5 := hz3.free 5
    unfold zeroV at c0 c1 c2 c3 c4 c5
    simp only [List.getElem?_toArray, List.getElem?_cons_zero, List.getElem?_cons_succ] at c0 c1 c2 c3 c4 c5
    have hlt := hz3.lt
    unfold zeroV at hz3
    have hst := store6 (u0 := .int .i64 2) (u1 := .bool false) (u2 := .int .i64 n) (u3 := .string { data := #[] }) (u4 := .slice none 0 0) (u5 := .slice none 0 0) hz3
    have hkp := HK3.out.put6 (Nat.le_refl w.heap.size) (.int .i64 2) (.bool false) (.int .i64 n) (.string { data := #[] }) (.slice none 0 0) (.slice none 0 0)
    have hrp := HR3.out.put6 hg.symm (.int .i64 2) (.bool false) (.int .i64 n) (.string { data := #[] }) (.slice none 0 0) (.slice none 0 0)
    have HST := Lib.hid hst
    have HKP := Lib.hid hkp
    have HRP := Lib.hid hrp
    clear hst hkp hrp hz3
    go_wp2
    generalize hW : ((((((w3.setCell ⟨w.heap.size, 0, none⟩ (.int .i64 2)).setCell ⟨w.heap.size, 1, none⟩ (.bool false)).setCell ⟨w.heap.size, 2, none⟩ (.int .i64 n)).setCell ⟨w.heap.size, 3, none⟩ (.string { data := #[] })).setCell ⟨w.heap.size, 4, none⟩ (.slice none 0 0)).setCell ⟨w.heap.size, 5, none⟩ (.slice none 0 0)) = W at *
    have d0 := HST.out.cell 0
    have d1 := HST.out.cell 1
    have d2 := HST.out.cell 2
    have d3 := HST.out.cell 3
    have d4 := HST.out.cell 4
    have d5 := HST.out.cell 5
    simp only [List.getElem?_toArray, List.getElem?_cons_zero, List.getElem?_cons_succ] at d0 d1 d2 d3 d4 d5
    refine bodyPost_ret (v := .tuple #[.agg #[.int .i64 2, .bool false, .int .i64 n, .string { data := #[] }, .slice none 0 0, .slice none 0 0], .int .i64 0]) (by simp [results, Tryz.results77, go_sem, d0, d1, d2, d3, d4, d5]) rfl ?_
    exact vaE_leaf HE.out HKP.out HRP.out
set_option maxHeartbeats 2000000 in
theorem plain_true (b : Nat) (s : Nm) (o : Int) (w : World) (hG : Glob w) (_hb8 : 8 ≤ b) (h : RdAt w b s o) (_hs : s.length ≤ 1048576) (hc : comes (· == 34) s = false) (hd : comes (fun c => c == 45 || isFig c) s = false) (r : Nm) (t1 : takes trueL s = some r) : Calls Tryz.prog 77 #[.pointer (some ⟨b, 0, none⟩)] w (VaE w b o (plainL s)) := by
  have hpl : plainL s = .ok (.mk 1 true 0 [] [] []) r := by unfold plainL; rw [hc, hd]; simp only [Bool.false_eq_true, if_false]; rw [t1]
  have Hpl := Lib.hid hpl
  have HG := Lib.hid hG
  obtain ⟨res, hres⟩ : ∃ res, res = plainL s := ⟨_, rfl⟩
  rw [← hres] at Hpl ⊢
  have hbl := Blk.lt h
  have h1 := comes_any b s [34] o (w.alloc (.cells zeroV 36)) (h.ext (below_a1 _ _))
  rw [comes_one, hc] at h1
  have H1 := Lib.hid h1
  have hg : w.heap.size ≠ b := by omega
  have hz0 : Blk (w.alloc (.cells zeroV 36)) w.heap.size zeroV 36 := Blk.new rfl
  have HZ0 := Lib.hid hz0
  unfold zeroV at H1
  have h2 : Hid (∀ w, RdAt w b s o → Calls Tryz.prog 99 #[.pointer (some ⟨b, 0, none⟩), .string { data := #[45, 48, 49, 50, 51, 52, 53, 54, 55, 56, 57] }] w (ScE w b o (.bool false) s)) := Lib.hid fun w hw => by
    have := comes_any b s [45, 48, 49, 50, 51, 52, 53, 54, 55, 56, 57] o w hw
    rw [comes_num, hd] at this; exact this
  have T1 := Lib.hid t1
  have hE := Hpl.out
  have HE := Lib.hid hE
  clear hpl hres h1 hc h hz0 hG hd t1 hE
  go_enter Tryz.func77, Tryz.ntmps77
  go_wp2_with fail
  refine H1.out.mono ?_
  rintro e w1 ⟨rfl, hk1, hr1⟩
  have HZ1 := Lib.hid (hk1.blk HZ0.out hg)
  have HK1 := Lib.hid hk1.since
  have HR1 := Lib.hid hr1
  clear hk1 hr1
  go_wp2_with fail
  refine (h2.out w1 HR1.out).mono ?_
  rintro e w2 ⟨rfl, hk, hr⟩
  have HZ2 := Lib.hid (hk.blk HZ1.out hg)
  have HK2 := Lib.hid (HK1.out.trans hk)
  have HR2 := Lib.hid hr
  clear hk hr
  go_wp2_with fail
  refine (takes_yes b s trueL r o w2 HR2.out T1.out).mono ?_
  rintro e w3 ⟨rfl, hk, hr⟩
  have HZ3 := Lib.hid (hk.blk HZ2.out hg)
  have HK3 := Lib.hid (HK2.out.trans hk)
  have HR3 := Lib.hid hr
  clear hk hr
  have hz3 := HZ3.out
  have c0 := hz3.cell 0
  have c1 := hz3.cell 1
  have c2 := hz3.cell 2
  have c3 := hz3.cell 3
  have c4 := hz3.cell 4
  have c5 := hz3.cell 5
  have f0 := hz3.free 0
  have f1 := hz3.free 1
  have f2 := hz3.free 2
  have f3 := hz3.free 3
  have f4 := hz3.free 4
  have f5 := hz3.free 5
  unfold zeroV at c0 c1 c2 c3 c4 c5
  simp only [List.getElem?_toArray, List.getElem?_cons_zero, List.getElem?_cons_succ] at c0 c1 c2 c3 c4 c5
  have hlt := hz3.lt
  unfold zeroV at hz3
  have hst := store6 (u0 := .int .i64 1) (u1 := .bool true) (u2 := .int .i64 0) (u3 := .string { data := #[] }) (u4 := .slice none 0 0) (u5 := .slice none 0 0) hz3
  have hkp := HK3.out.put6 (Nat.le_refl w.heap.size) (.int .i64 1) (.bool true) (.int .i64 0) (.string { data := #[] }) (.slice none 0 0) (.slice none 0 0)
  have hrp := HR3.out.put6 hg.symm (.int .i64 1) (.bool true) (.int .i64 0) (.string { data := #[] }) (.slice none 0 0) (.slice none 0 0)
  have HST := Lib.hid hst
  have HKP := Lib.hid hkp
  have HRP := Lib.hid hrp
  clear hst hkp hrp hz3
  go_wp2
  generalize hW : ((((((w3.setCell ⟨w.heap.size, 0, none⟩ (.int .i64 1)).setCell ⟨w.heap.size, 1, none⟩ (.bool true)).setCell ⟨w.heap.size, 2, none⟩ (.int .i64 0)).setCell ⟨w.heap.size, 3, none⟩ (.string { data := #[] })).setCell ⟨w.heap.size, 4, none⟩ (.slice none 0 0)).setCell ⟨w.heap.size, 5, none⟩ (.slice none 0 0)) = W at *
  have d0 := HST.out.cell 0
  have d1 := HST.out.cell 1
  have d2 := HST.out.cell 2
  have d3 := HST.out.cell 3
  have d4 := HST.out.cell 4
  have d5 := HST.out.cell 5
  simp only [List.getElem?_toArray, List.getElem?_cons_zero, List.getElem?_cons_succ] at d0 d1 d2 d3 d4 d5
  refine bodyPost_ret (v := .tuple #[.agg #[.int .i64 1, .bool true, .int .i64 0, .string { data := #[] }, .slice none 0 0, .slice none 0 0], .int .i64 0]) (by simp [results, Tryz.results77, go_sem, d0, d1, d2, d3, d4, d5]) rfl ?_
  exact vaE_leaf HE.out HKP.out HRP.out
set_option maxHeartbeats 2000000 in
theorem plain_false (b : Nat) (s : Nm) (o : Int) (w : World) (hG : Glob w) (_hb8 : 8 ≤ b) (h : RdAt w b s o) (_hs : s.length ≤ 1048576) (hc : comes (· == 34) s = false) (hd : comes (fun c => c == 45 || isFig c) s = false) (r : Nm) (t1 : takes trueL s = none) (t2 : takes falseL s = some r) : Calls Tryz.prog 77 #[.pointer (some ⟨b, 0, none⟩)] w (VaE w b o (plainL s)) := by
  have hpl : plainL s = .ok (.mk 1 false 0 [] [] []) r := by unfold plainL; rw [hc, hd]; simp only [Bool.false_eq_true, if_false]; rw [t1, t2]
  have Hpl := Lib.hid hpl
  have HG := Lib.hid hG
  obtain ⟨res, hres⟩ : ∃ res, res = plainL s := ⟨_, rfl⟩
  rw [← hres] at Hpl ⊢
  have hbl := Blk.lt h
  have h1 := comes_any b s [34] o (w.alloc (.cells zeroV 36)) (h.ext (below_a1 _ _))
  rw [comes_one, hc] at h1
  have H1 := Lib.hid h1
  have hg : w.heap.size ≠ b := by omega
  have hz0 : Blk (w.alloc (.cells zeroV 36)) w.heap.size zeroV 36 := Blk.new rfl
  have HZ0 := Lib.hid hz0
  unfold zeroV at H1
  have h2 : Hid (∀ w, RdAt w b s o → Calls Tryz.prog 99 #[.pointer (some ⟨b, 0, none⟩), .string { data := #[45, 48, 49, 50, 51, 52, 53, 54, 55, 56, 57] }] w (ScE w b o (.bool false) s)) := Lib.hid fun w hw => by
    have := comes_any b s [45, 48, 49, 50, 51, 52, 53, 54, 55, 56, 57] o w hw
    rw [comes_num, hd] at this; exact this
  have T1 := Lib.hid t1
  have T2 := Lib.hid t2
  have hE := Hpl.out
  have HE := Lib.hid hE
  clear hpl hres h1 hc h hz0 hG hd t1 t2 hE
  go_enter Tryz.func77, Tryz.ntmps77
  go_wp2_with fail
  refine H1.out.mono ?_
  rintro e w1 ⟨rfl, hk1, hr1⟩
  have HZ1 := Lib.hid (hk1.blk HZ0.out hg)
  have HK1 := Lib.hid hk1.since
  have HR1 := Lib.hid hr1
  clear hk1 hr1
  go_wp2_with fail
  refine (h2.out w1 HR1.out).mono ?_
  rintro e w2 ⟨rfl, hk, hr⟩
  have HZ2 := Lib.hid (hk.blk HZ1.out hg)
  have HK2 := Lib.hid (HK1.out.trans hk)
  have HR2 := Lib.hid hr
  clear hk hr
  go_wp2_with fail
  refine (takes_no b s trueL o w2 HR2.out T1.out).mono ?_
  rintro e w3 ⟨rfl, hk, hr⟩
  have HZ3 := Lib.hid (hk.blk HZ2.out hg)
  have HK3 := Lib.hid (HK2.out.trans hk)
  have HR3 := Lib.hid hr
  clear hk hr
  go_wp2_with fail
  refine (takes_yes b s falseL r o w3 HR3.out T2.out).mono ?_
  rintro e w4 ⟨rfl, hk, hr⟩
  have HZ4 := Lib.hid (hk.blk HZ3.out hg)
  have HK4 := Lib.hid (HK3.out.trans hk)
  have HR4 := Lib.hid hr
  clear hk hr
  have hz3 := HZ4.out
  have c0 := hz3.cell 0
  have c1 := hz3.cell 1
  have c2 := hz3.cell 2
  have c3 := hz3.cell 3
  have c4 := hz3.cell 4
  have c5 := hz3.cell 5
  have f0 := hz3.free 0
  have f1 := hz3.free 1
  have f2 := hz3.free 2
  have f3 := hz3.free 3
  have f4 := hz3.free 4
  have f5 := hz3.free 5
  unfold zeroV at c0 c1 c2 c3 c4 c5
  simp only [List.getElem?_toArray, List.getElem?_cons_zero, List.getElem?_cons_succ] at c0 c1 c2 c3 c4 c5
  have hlt := hz3.lt
  unfold zeroV at hz3
  have hst := store6 (u0 := .int .i64 1) (u1 := .bool false) (u2 := .int .i64 0) (u3 := .string { data := #[] }) (u4 := .slice none 0 0) (u5 := .slice none 0 0) hz3
  have hkp := HK4.out.put6 (Nat.le_refl w.heap.size) (.int .i64 1) (.bool false) (.int .i64 0) (.string { data := #[] }) (.slice none 0 0) (.slice none 0 0)
  have hrp := HR4.out.put6 hg.symm (.int .i64 1) (.bool false) (.int .i64 0) (.string { data := #[] }) (.slice none 0 0) (.slice none 0 0)
  have HST := Lib.hid hst
  have HKP := Lib.hid hkp
  have HRP := Lib.hid hrp
  clear hst hkp hrp hz3
  go_wp2
  generalize hW : ((((((w4.setCell ⟨w.heap.size, 0, none⟩ (.int .i64 1)).setCell ⟨w.heap.size, 1, none⟩ (.bool false)).setCell ⟨w.heap.size, 2, none⟩ (.int .i64 0)).setCell ⟨w.heap.size, 3, none⟩ (.string { data := #[] })).setCell ⟨w.heap.size, 4, none⟩ (.slice none 0 0)).setCell ⟨w.heap.size, 5, none⟩ (.slice none 0 0)) = W at *
  have d0 := HST.out.cell 0
  have d1 := HST.out.cell 1
  have d2 := HST.out.cell 2
  have d3 := HST.out.cell 3
  have d4 := HST.out.cell 4
  have d5 := HST.out.cell 5
  simp only [List.getElem?_toArray, List.getElem?_cons_zero, List.getElem?_cons_succ] at d0 d1 d2 d3 d4 d5
  refine bodyPost_ret (v := .tuple #[.agg #[.int .i64 1, .bool false, .int .i64 0, .string { data := #[] }, .slice none 0 0, .slice none 0 0], .int .i64 0]) (by simp [results, Tryz.results77, go_sem, d0, d1, d2, d3, d4, d5]) rfl ?_
  exact vaE_leaf HE.out HKP.out HRP.out
set_option maxHeartbeats 2000000 in
theorem plain_null (b : Nat) (s : Nm) (o : Int) (w : World) (hG : Glob w) (_hb8 : 8 ≤ b) (h : RdAt w b s o) (_hs : s.length ≤ 1048576) (hc : comes (· == 34) s = false) (hd : comes (fun c => c == 45 || isFig c) s = false) (r : Nm) (t1 : takes trueL s = none) (t2 : takes falseL s = none) (t3 : takes nullL s = some r) : Calls Tryz.prog 77 #[.pointer (some ⟨b, 0, none⟩)] w (VaE w b o (plainL s)) := by
  have hpl : plainL s = .ok (.mk 0 false 0 [] [] []) r := by unfold plainL; rw [hc, hd]; simp only [Bool.false_eq_true, if_false]; rw [t1, t2, t3]; rfl
  have Hpl := Lib.hid hpl
  have HG := Lib.hid hG
  obtain ⟨res, hres⟩ : ∃ res, res = plainL s := ⟨_, rfl⟩
  rw [← hres] at Hpl ⊢
  have hbl := Blk.lt h
  have h1 := comes_any b s [34] o (w.alloc (.cells zeroV 36)) (h.ext (below_a1 _ _))
  rw [comes_one, hc] at h1
  have H1 := Lib.hid h1
  have hg : w.heap.size ≠ b := by omega
  have hz0 : Blk (w.alloc (.cells zeroV 36)) w.heap.size zeroV 36 := Blk.new rfl
  have HZ0 := Lib.hid hz0
  unfold zeroV at H1
  have h2 : Hid (∀ w, RdAt w b s o → Calls Tryz.prog 99 #[.pointer (some ⟨b, 0, none⟩), .string { data := #[45, 48, 49, 50, 51, 52, 53, 54, 55, 56, 57] }] w (ScE w b o (.bool false) s)) := Lib.hid fun w hw => by
    have := comes_any b s [45, 48, 49, 50, 51, 52, 53, 54, 55, 56, 57] o w hw
    rw [comes_num, hd] at this; exact this
  have T1 := Lib.hid t1
  have T2 := Lib.hid t2
  have T3 := Lib.hid t3
  have hE := Hpl.out
  have HE := Lib.hid hE
  clear hpl hres h1 hc h hz0 hG hd t1 t2 t3 hE
  go_enter Tryz.func77, Tryz.ntmps77
  go_wp2_with fail
  refine H1.out.mono ?_
  rintro e w1 ⟨rfl, hk1, hr1⟩
  have HZ1 := Lib.hid (hk1.blk HZ0.out hg)
  have HK1 := Lib.hid hk1.since
  have HR1 := Lib.hid hr1
  clear hk1 hr1
  go_wp2_with fail
  refine (h2.out w1 HR1.out).mono ?_
  rintro e w2 ⟨rfl, hk, hr⟩
  have HZ2 := Lib.hid (hk.blk HZ1.out hg)
  have HK2 := Lib.hid (HK1.out.trans hk)
  have HR2 := Lib.hid hr
  clear hk hr
  go_wp2_with fail
  refine (takes_no b s trueL o w2 HR2.out T1.out).mono ?_
  rintro e w3 ⟨rfl, hk, hr⟩
  have HZ3 := Lib.hid (hk.blk HZ2.out hg)
  have HK3 := Lib.hid (HK2.out.trans hk)
  have HR3 := Lib.hid hr
  clear hk hr
  go_wp2_with fail
  refine (takes_no b s falseL o w3 HR3.out T2.out).mono ?_
  rintro e w4 ⟨rfl, hk, hr⟩
  have HZ4 := Lib.hid (hk.blk HZ3.out hg)
  have HK4 := Lib.hid (HK3.out.trans hk)
  have HR4 := Lib.hid hr
  clear hk hr
  go_wp2_with fail
  refine (takes_yes b s nullL r o w4 HR4.out T3.out).mono ?_
  rintro e w5 ⟨rfl, hk, hr⟩
  have HZ5 := Lib.hid (hk.blk HZ4.out hg)
  have HK5 := Lib.hid (HK4.out.trans hk)
  have HR5 := Lib.hid hr
  clear hk hr
  go_wp2_with fail
  refine (made_yes _ _ _ _ _).mono ?_
  rintro e w9 ⟨_, rfl, hb3, rfl⟩
  have hz3 := HZ5.out.ext hb3
  have HK9 := Lib.hid (HK5.out.ext hb3)
  have HR9 := Lib.hid (HR5.out.ext hb3)
  clear hb3
  have c0 := hz3.cell 0
  have c1 := hz3.cell 1
  have c2 := hz3.cell 2
  have c3 := hz3.cell 3
  have c4 := hz3.cell 4
  have c5 := hz3.cell 5
  have f0 := hz3.free 0
  have f1 := hz3.free 1
  have f2 := hz3.free 2
  have f3 := hz3.free 3
  have f4 := hz3.free 4
  have f5 := hz3.free 5
  unfold zeroV at c0 c1 c2 c3 c4 c5
  simp only [List.getElem?_toArray, List.getElem?_cons_zero, List.getElem?_cons_succ] at c0 c1 c2 c3 c4 c5
  have hlt := hz3.lt
  unfold zeroV at hz3
  have hst := store6 (u0 := .int .i64 0) (u1 := .bool false) (u2 := .int .i64 0) (u3 := .string { data := #[] }) (u4 := .slice none 0 0) (u5 := .slice none 0 0) hz3
  have hkp := HK9.out.put6 (Nat.le_refl w.heap.size) (.int .i64 0) (.bool false) (.int .i64 0) (.string { data := #[] }) (.slice none 0 0) (.slice none 0 0)
  have hrp := HR9.out.put6 hg.symm (.int .i64 0) (.bool false) (.int .i64 0) (.string { data := #[] }) (.slice none 0 0) (.slice none 0 0)
  have HST := Lib.hid hst
  have HKP := Lib.hid hkp
  have HRP := Lib.hid hrp
  clear hst hkp hrp hz3
  go_wp2
  generalize hW : ((((((w9.setCell ⟨w.heap.size, 0, none⟩ (.int .i64 0)).setCell ⟨w.heap.size, 1, none⟩ (.bool false)).setCell ⟨w.heap.size, 2, none⟩ (.int .i64 0)).setCell ⟨w.heap.size, 3, none⟩ (.string { data := #[] })).setCell ⟨w.heap.size, 4, none⟩ (.slice none 0 0)).setCell ⟨w.heap.size, 5, none⟩ (.slice none 0 0)) = W at *
  have d0 := HST.out.cell 0
  have d1 := HST.out.cell 1
  have d2 := HST.out.cell 2
  have d3 := HST.out.cell 3
  have d4 := HST.out.cell 4
  have d5 := HST.out.cell 5
  simp only [List.getElem?_toArray, List.getElem?_cons_zero, List.getElem?_cons_succ] at d0 d1 d2 d3 d4 d5
  refine bodyPost_ret (v := .tuple #[.agg #[.int .i64 0, .bool false, .int .i64 0, .string { data := #[] }, .slice none 0 0, .slice none 0 0], .int .i64 0]) (by simp [results, Tryz.results77, go_sem, d0, d1, d2, d3, d4, d5]) rfl ?_
  exact vaE_leaf HE.out HKP.out HRP.out
set_option maxHeartbeats 2000000 in
theorem plain_none (b : Nat) (s : Nm) (o : Int) (w : World) (hG : Glob w) (_hb8 : 8 ≤ b) (h : RdAt w b s o) (_hs : s.length ≤ 1048576) (hc : comes (· == 34) s = false) (hd : comes (fun c => c == 45 || isFig c) s = false) (t1 : takes trueL s = none) (t2 : takes falseL s = none) (t3 : takes nullL s = none) : Calls Tryz.prog 77 #[.pointer (some ⟨b, 0, none⟩)] w (VaE w b o (plainL s)) := by
  have hpl : plainL s = .err 21 := by unfold plainL; rw [hc, hd]; simp only [Bool.false_eq_true, if_false]; rw [t1, t2, t3]
  have Hpl := Lib.hid hpl
  have HG := Lib.hid hG
  obtain ⟨res, hres⟩ : ∃ res, res = plainL s := ⟨_, rfl⟩
  rw [← hres] at Hpl ⊢
  have hbl := Blk.lt h
  have h1 := comes_any b s [34] o (w.alloc (.cells zeroV 36)) (h.ext (below_a1 _ _))
  rw [comes_one, hc] at h1
  have H1 := Lib.hid h1
  have hg : w.heap.size ≠ b := by omega
  have hz0 : Blk (w.alloc (.cells zeroV 36)) w.heap.size zeroV 36 := Blk.new rfl
  have HZ0 := Lib.hid hz0
  unfold zeroV at H1
  have h2 : Hid (∀ w, RdAt w b s o → Calls Tryz.prog 99 #[.pointer (some ⟨b, 0, none⟩), .string { data := #[45, 48, 49, 50, 51, 52, 53, 54, 55, 56, 57] }] w (ScE w b o (.bool false) s)) := Lib.hid fun w hw => by
    have := comes_any b s [45, 48, 49, 50, 51, 52, 53, 54, 55, 56, 57] o w hw
    rw [comes_num, hd] at this; exact this
  have T1 := Lib.hid t1
  have T2 := Lib.hid t2
  have T3 := Lib.hid t3
  have hE := Hpl.out
  have HE := Lib.hid hE
  clear hpl hres h1 hc h hz0 hG hd t1 t2 t3 hE
  go_enter Tryz.func77, Tryz.ntmps77
  go_wp2_with fail
  refine H1.out.mono ?_
  rintro e w1 ⟨rfl, hk1, hr1⟩
  have HZ1 := Lib.hid (hk1.blk HZ0.out hg)
  have HK1 := Lib.hid hk1.since
  have HR1 := Lib.hid hr1
  clear hk1 hr1
  go_wp2_with fail
  refine (h2.out w1 HR1.out).mono ?_
  rintro e w2 ⟨rfl, hk, hr⟩
  have HZ2 := Lib.hid (hk.blk HZ1.out hg)
  have HK2 := Lib.hid (HK1.out.trans hk)
  have HR2 := Lib.hid hr
  clear hk hr
  go_wp2_with fail
  refine (takes_no b s trueL o w2 HR2.out T1.out).mono ?_
  rintro e w3 ⟨rfl, hk, hr⟩
  have HZ3 := Lib.hid (hk.blk HZ2.out hg)
  have HK3 := Lib.hid (HK2.out.trans hk)
  have HR3 := Lib.hid hr
  clear hk hr
  go_wp2_with fail
  refine (takes_no b s falseL o w3 HR3.out T2.out).mono ?_
  rintro e w4 ⟨rfl, hk, hr⟩
  have HZ4 := Lib.hid (hk.blk HZ3.out hg)
  have HK4 := Lib.hid (HK3.out.trans hk)
  have HR4 := Lib.hid hr
  clear hk hr
  go_wp2_with fail
  refine (takes_no b s nullL o w4 HR4.out T3.out).mono ?_
  rintro e w5 ⟨rfl, hk, hr⟩
  have HZ5 := Lib.hid (hk.blk HZ4.out hg)
  have HK5 := Lib.hid (HK4.out.trans hk)
  have HR5 := Lib.hid hr
  clear hk hr
  go_wp2_with fail
  refine (made_no _ _ _ _ _ _ _).mono ?_
  rintro e w9 ⟨_, rfl, hb3, rfl⟩
  have hz3 := HZ5.out.ext hb3
  have HK9 := Lib.hid (HK5.out.ext hb3)
  have HR9 := Lib.hid (HR5.out.ext hb3)
  clear hb3
  have c0 := hz3.cell 0
  have c1 := hz3.cell 1
  have c2 := hz3.cell 2
  have c3 := hz3.cell 3
  have c4 := hz3.cell 4
  have c5 := hz3.cell 5
  have f0 := hz3.free 0
  have f1 := hz3.free 1
  have f2 := hz3.free 2
  have f3 := hz3.free 3
  have f4 := hz3.free 4
  have f5 := hz3.free 5
  unfold zeroV at c0 c1 c2 c3 c4 c5
  simp only [List.getElem?_toArray, List.getElem?_cons_zero, List.getElem?_cons_succ] at c0 c1 c2 c3 c4 c5
  have hlt := hz3.lt
  unfold zeroV at hz3
  have hst := store6 (u0 := .int .i64 0) (u1 := .bool false) (u2 := .int .i64 0) (u3 := .string { data := #[] }) (u4 := .slice none 0 0) (u5 := .slice none 0 0) hz3
  have hkp := HK9.out.put6 (Nat.le_refl w.heap.size) (.int .i64 0) (.bool false) (.int .i64 0) (.string { data := #[] }) (.slice none 0 0) (.slice none 0 0)
  have hrp := HR9.out.put6 hg.symm (.int .i64 0) (.bool false) (.int .i64 0) (.string { data := #[] }) (.slice none 0 0) (.slice none 0 0)
  have HST := Lib.hid hst
  have HKP := Lib.hid hkp
  have HRP := Lib.hid hrp
  clear hst hkp hrp hz3
  go_wp2
  generalize hW : ((((((w9.setCell ⟨w.heap.size, 0, none⟩ (.int .i64 0)).setCell ⟨w.heap.size, 1, none⟩ (.bool false)).setCell ⟨w.heap.size, 2, none⟩ (.int .i64 0)).setCell ⟨w.heap.size, 3, none⟩ (.string { data := #[] })).setCell ⟨w.heap.size, 4, none⟩ (.slice none 0 0)).setCell ⟨w.heap.size, 5, none⟩ (.slice none 0 0)) = W at *
  have d0 := HST.out.cell 0
  have d1 := HST.out.cell 1
  have d2 := HST.out.cell 2
  have d3 := HST.out.cell 3
  have d4 := HST.out.cell 4
  have d5 := HST.out.cell 5
  simp only [List.getElem?_toArray, List.getElem?_cons_zero, List.getElem?_cons_succ] at d0 d1 d2 d3 d4 d5
  refine bodyPost_ret (v := .tuple #[.agg #[.int .i64 0, .bool false, .int .i64 0, .string { data := #[] }, .slice none 0 0, .slice none 0 0], .int .i64 21]) (by simp [results, Tryz.results77, go_sem, d0, d1, d2, d3, d4, d5]) rfl ?_
  exact vaE_err HE.out HKP.out HRP.out
theorem plain_any (b : Nat) (s : Nm) (o : Int) (w : World) (hG : Glob w) (hb8 : 8 ≤ b) (h : RdAt w b s o) (hs : s.length ≤ 1048576) : Calls Tryz.prog 77 #[.pointer (some ⟨b, 0, none⟩)] w (VaE w b o (plainL s)) := by
  cases hc : comes (· == 34) s with
  | true => exact plain_text b s o w hG hb8 h hs hc
  | false =>
    cases hd : comes (fun c => c == 45 || isFig c) s with
    | true => exact plain_num b s o w hG hb8 h hs hc hd
    | false =>
      cases t1 : takes trueL s with
      | some r => exact plain_true b s o w hG hb8 h hs hc hd r t1
      | none =>
        cases t2 : takes falseL s with
        | some r => exact plain_false b s o w hG hb8 h hs hc hd r t1 t2
        | none =>
          cases t3 : takes nullL s with
          | some r => exact plain_null b s o w hG hb8 h hs hc hd r t1 t2 t3
          | none => exact plain_none b s o w hG hb8 h hs hc hd t1 t2 t3
end Go.Proofs.YthnbeebilomchaaGreatDoor

namespace Go.Proofs.YthnbeebilomchaaGreatDoor
open Go Go.RowKit

theorem Tryz.infoVal : (Tryz.prog.info? 36).map (fun i => (i.zero, i.size, i.bytes)) = some (some (.agg #[.int .i64 0, .bool false, .int .i64 0, .string ByteArray.empty, .slice none 0 0, .slice none 0 0]), 6, 88) := by kernel_rfl
theorem Tryz.infoStr : (Tryz.prog.info? 9).map (fun i => (i.zero, i.size, i.bytes)) = some (some (.string ByteArray.empty), 1, 16) := by kernel_rfl
theorem ne_types : 9 ≠ 36 := by decide

/-- a value in the making: what is read of it; the box of the reader's pointer, and the result, beside it -/
structure PV (w0 wr : World) (b : Nat) (sort : Int) (vs : List VD) (la : Option Addr) (lc : Nat) (ks : List Nm) (ka : Option Addr) (kc : Nat) : Prop where
  box : Blk wr w0.heap.size #[.pointer (some ⟨b, 0, none⟩)] 106
  res : Blk wr (w0.heap.size + 1) zeroV 36
  blk : Blk wr (w0.heap.size + 2) #[.int .i64 sort, .bool false, .int .i64 0, .string { data := #[] }, .slice la vs.length lc, .slice ka ks.length kc] 36
  own : Own wr (w0.heap.size + 3) 36 6 la vs.length lc (vs.flatMap VD.cells)
  kown : Own wr (w0.heap.size + 3) 9 1 ka ks.length kc (ks.map strV)
  at' : ∀ x ∈ vs, ValAt wr (fun k => w0.heap.size + 3 ≤ k ∧ rowOf la lc ≠ some k ∧ rowOf ka kc ≠ some k) x
  keep : Keep b w0 wr
theorem blockOf_ne {w : World} {base : Nat} {e : TypeId} {sz : Nat} {a : Option Addr} {n cap : Nat} {xs : List Value} (h : Own w base e sz a n cap xs) {b : Nat} (hb : b < base) : blockOf a ≠ some b := fun he => by have := h.base he; omega
section
variable {w0 wr w' : World} {b : Nat} {sort : Int} {vs : List VD} {la : Option Addr} {lc : Nat} {ks : List Nm} {ka : Option Addr} {kc : Nat}
/-- the reader turned -/
theorem PV.turn (h : PV w0 wr b sort vs la lc ks ka kc) (hb : b < w0.heap.size) (k : Keep b wr w') : PV w0 w' b sort vs la lc ks ka kc :=
  ⟨k.blk h.box (by omega), k.blk h.res (by omega), k.blk h.blk (by omega), k.own h.own (blockOf_ne h.own (by omega)), k.own h.kown (blockOf_ne h.kown (by omega)),
    fun x hx => (h.at' x hx).congr fun g hg hlt => k.block hlt (by omega), h.keep.trans k⟩
theorem PV.ext (h : PV w0 wr b sort vs la lc ks ka kc) (hb : b < w0.heap.size) (k : Below wr.heap.size wr w') : PV w0 w' b sort vs la lc ks ka kc := h.turn hb ((Keep.refl b wr).ext k)
/-- a row of keys, one more, that is no row of a value's -/
theorem PV.pushKey {ka' : Option Addr} {kc' : Nat} {k : Nm} (h : PV w0 wr b sort vs la lc ks ka kc) (ho : Own w' (w0.heap.size + 3) 9 1 ka' (ks.length + 1) kc' ((ks ++ [k]).map strV)) (hg : wr.grownBy w' (rowOf ka kc)) (hr : rowOf ka' kc' = rowOf ka kc ∨ ∃ j, rowOf ka' kc' = some j ∧ wr.heap.size ≤ j) :
    PV w0 (w'.setCell ⟨w0.heap.size + 2, 5, none⟩ (.slice ka' (ks.length + 1) kc')) b sort vs la lc (ks ++ [k]) ka' kc' := by
  have hap : ∀ j, j < w0.heap.size + 3 → some j ≠ rowOf ka kc := fun j hj => h.kown.apart hj
  have hsz : wr.heap.size ≤ w'.heap.size := hg.size
  have hbl := h.blk.lt
  have hl := (h.own.keptType h.kown ne_types.symm hg)
  refine ⟨(h.box.grown hg (hap _ (by omega))).other (p := ⟨w0.heap.size + 2, 5, none⟩) (by show w0.heap.size ≠ w0.heap.size + 2; omega) _, (h.res.grown hg (hap _ (by omega))).other (p := ⟨w0.heap.size + 2, 5, none⟩) (by show w0.heap.size + 1 ≠ w0.heap.size + 2; omega) _, ?_, ?_, ?_, ?_, ?_⟩
  · have := (h.blk.grown hg (hap _ (by omega))).set 5 (.slice ka' (ks.length + 1) kc')
    simpa using this
  · exact hl.setCell_other (p := ⟨w0.heap.size + 2, 5, none⟩) (blockOf_ne (b := w0.heap.size + 2) hl (by omega)) _
  · have := ho.setCell_other (p := ⟨w0.heap.size + 2, 5, none⟩) (blockOf_ne (b := w0.heap.size + 2) ho (by omega)) (.slice ka' (ks.length + 1) kc')
    simpa using this
  · intro x hx
    have h2 := (h.at' x hx).mono (q := fun k => (w0.heap.size + 3 ≤ k ∧ rowOf la lc ≠ some k ∧ rowOf ka kc ≠ some k) ∧ rowOf ka' kc' ≠ some k) fun g hp hlt => ⟨hp, by
      rcases hr with hr | ⟨j, hr, hj⟩
      · rw [hr]; exact hp.2.2
      · rw [hr]; intro e; injection e; omega⟩
    have h3 := h2.congr (w' := w'.setCell ⟨w0.heap.size + 2, 5, none⟩ (.slice ka' (ks.length + 1) kc')) fun g hp hlt => by
      rw [Below.heap_setCell w' ⟨w0.heap.size + 2, 5, none⟩ _ g (by show g ≠ w0.heap.size + 2; omega)]
      exact hg.block g hlt (fun e => hp.1.2.2 e.symm)
    exact h3.mono fun g hp _ => ⟨hp.1.1, hp.1.2.1, hp.2⟩
  · exact (h.keep.grown hg (h.kown.rowBase (by omega))).put (by omega) _ _
/-- a row of values, one more, whose rows are new -/
theorem PV.pushVal {la' : Option Addr} {lc' : Nat} {x : VD} (h : PV w0 wr b sort vs la lc ks ka kc) (hx : ValAt wr (fun k => w0.heap.size + 3 ≤ k ∧ rowOf la lc ≠ some k ∧ rowOf ka kc ≠ some k) x) (ho : Own w' (w0.heap.size + 3) 36 6 la' (vs.length + 1) lc' ((vs ++ [x]).flatMap VD.cells))
    (hk : ∀ j, j < wr.heap.size → some j ≠ rowOf la lc → some j ≠ rowOf la' lc' → w'.heap[j]? = wr.heap[j]?) (hK : Below 0 wr w') (hr : rowOf la' lc' = rowOf la lc ∨ ∃ j, rowOf la' lc' = some j ∧ wr.heap.size ≤ j) :
    PV w0 (w'.setCell ⟨w0.heap.size + 2, 4, none⟩ (.slice la' (vs.length + 1) lc')) b sort (vs ++ [x]) la' lc' ks ka kc := by
  have hap : ∀ j, j < w0.heap.size + 3 → some j ≠ rowOf la lc := fun j hj => h.own.apart hj
  have hap2 : ∀ j, j < w0.heap.size + 3 → some j ≠ rowOf la' lc' := fun j hj => ho.apart hj
  have hbl := h.blk.lt
  have hkk : ∀ j, j < w0.heap.size + 3 → w'.heap[j]? = wr.heap[j]? := fun j hj => hk j (by omega) (hap j hj) (hap2 j hj)
  have hko : Own w' (w0.heap.size + 3) 9 1 ka ks.length kc (ks.map strV) := by
    refine ⟨h.kown.1, ?_⟩
    rcases h.kown.2 with h1 | ⟨g, off, cur, rfl, k2, k3, r⟩
    · exact .inl h1
    · refine .inr ⟨g, off, cur, rfl, k2, ?_, r⟩
      have hlt := (Array.getElem?_eq_some_iff.1 k3).1
      have hne : ∀ {a : Option Addr} {n c : Nat} {xs : List Value} {W : World}, Own W (w0.heap.size + 3) 36 6 a n c xs → W.heap[g]? = wr.heap[g]? → some g ≠ rowOf a c := fun {a n c xs W} o hW he => by
        unfold rowOf at he
        split at he
        · cases he
        · rename_i hc
          rcases o.2 with ⟨_, q, _⟩ | ⟨g', off', cur', rfl, _, q3, _⟩
          · exact hc q
          · simp [blockOf] at he; subst he
            rw [hW, k3] at q3
            simp only [Option.some.injEq, Obj.cells.injEq] at q3
            exact ne_types q3.2.1
      have h1 := hne h.own rfl
      have h2 : some g ≠ rowOf la' lc' := by
        rcases hr with hr | ⟨j, hr, hj⟩
        · rw [hr]; exact h1
        · rw [hr]; intro e; injection e; omega
      rw [hk g hlt h1 h2]; exact k3
  refine ⟨?_, ?_, ?_, ?_, ?_, ?_, ?_⟩
  · exact Blk.other (p := ⟨w0.heap.size + 2, 4, none⟩) ((hkk _ (by omega)).trans h.box) (by show w0.heap.size ≠ w0.heap.size + 2; omega) _
  · exact Blk.other (p := ⟨w0.heap.size + 2, 4, none⟩) ((hkk _ (by omega)).trans h.res) (by show w0.heap.size + 1 ≠ w0.heap.size + 2; omega) _
  · have := Blk.set (w := w') (g := w0.heap.size + 2) ((hkk _ (by omega)).trans h.blk) 4 (.slice la' (vs.length + 1) lc')
    simpa using this
  · have := ho.setCell_other (p := ⟨w0.heap.size + 2, 4, none⟩) (blockOf_ne (b := w0.heap.size + 2) ho (by omega)) (.slice la' (vs.length + 1) lc')
    simpa using this
  · exact hko.setCell_other (p := ⟨w0.heap.size + 2, 4, none⟩) (blockOf_ne (b := w0.heap.size + 2) hko (by omega)) _
  · intro y hy
    have hy2 : ValAt wr (fun k => w0.heap.size + 3 ≤ k ∧ rowOf la lc ≠ some k ∧ rowOf ka kc ≠ some k) y := by
      rcases List.mem_append.1 hy with hy | hy
      · exact h.at' y hy
      · rw [List.mem_singleton] at hy; rw [hy]; exact hx
    have h2 := hy2.mono (q := fun k => (w0.heap.size + 3 ≤ k ∧ rowOf la lc ≠ some k ∧ rowOf ka kc ≠ some k) ∧ rowOf la' lc' ≠ some k) fun g hp hlt => ⟨hp, by
      rcases hr with hr | ⟨j, hr, hj⟩
      · rw [hr]; exact hp.2.1
      · rw [hr]; intro e; injection e; omega⟩
    have h3 := h2.congr (w' := w'.setCell ⟨w0.heap.size + 2, 4, none⟩ (.slice la' (vs.length + 1) lc')) fun g hp hlt => by
      rw [Below.heap_setCell w' ⟨w0.heap.size + 2, 4, none⟩ _ g (by show g ≠ w0.heap.size + 2; omega)]
      exact hk g hlt (fun e => hp.1.2.1 e.symm) (fun e => hp.2 e.symm)
    exact h3.mono fun g hp _ => ⟨hp.1.1, hp.2, hp.1.2.2⟩
  · refine Keep.put ⟨h.keep.1.trans hK, fun j hj hne => ?_⟩ (by omega) _ _
    have := h.keep.size
    exact (hkk j (by omega)).trans (h.keep.2 j hj hne)
end

theorem mem_ba (k : Nm) (ks : List Nm) : ((⟨k.toArray⟩ : ByteArray) ∈ ks.map fun x => (⟨x.toArray⟩ : ByteArray)) ↔ k ∈ ks := by
  rw [List.mem_map]
  constructor
  · rintro ⟨x, hx, he⟩
    have : x = k := by
      have h1 := congrArg (fun z : ByteArray => z.data.toList) he
      simpa using h1
    rw [← this]; exact hx
  · intro h; exact ⟨k, h, rfl⟩
theorem contains_any (a : Option Addr) (c : Nat) (ks : List Nm) (k : Nm) (w : World) (h : Row w 1 a ks.length (ks.map strV)) (hl : ks.length ≤ 1048576) : Calls Tryz.prog 113 #[.slice a ks.length c, .string ⟨k.toArray⟩] w fun e w' => e = .returned (.bool (decide (k ∈ ks))) ∧ w' = w := by
  cases ks with
  | nil => exact Tryz.slices_Contains_string_empty a c ⟨k.toArray⟩ w
  | cons x l =>
    obtain ⟨b, off, rfl, hc⟩ := h.2 (by simp)
    have h1 := Tryz.slices_Contains_string b off (x :: l).length c ((x :: l).map fun x => (⟨x.toArray⟩ : ByteArray)) ⟨k.toArray⟩ w (by simp) (by omega) (fun j hj => by
      rw [List.length_map] at hj
      have := hc j (by omega)
      rw [this]
      generalize x :: l = L at *
      rw [List.getElem?_map, List.getD_eq_getElem?_getD, List.getElem?_map, List.getElem?_eq_getElem hj]
      rfl)
    have e : Lib.containsS (((x :: l).map fun x => (⟨x.toArray⟩ : ByteArray)).take (x :: l).length) ⟨k.toArray⟩ = decide (k ∈ x :: l) := by
      rw [List.take_of_length_le (by simp), Bool.eq_iff_iff, Lib.containsS_iff, mem_ba, decide_eq_true_eq]
    rw [e] at h1
    exact h1
end Go.Proofs.YthnbeebilomchaaGreatDoor

namespace Go.Proofs.YthnbeebilomchaaGreatDoor
open Go Go.RowKit

/-- what key comes to -/
def KyE (w0 : World) (b : Nat) (o : Int) (sort : Int) (vs : List VD) (la : Option Addr) (lc : Nat) (ks : List Nm) (res : Option (Nm × Nm)) (e : Ending) (w' : World) : Prop :=
  match res with
  | none => e = .returned (.int .i64 21) ∧ ∃ (t : Nm) (ks' : List Nm) (ka' : Option Addr) (kc' : Nat), RdAt w' b t o ∧ PV w0 w' b sort vs la lc ks' ka' kc'
  | some (k, t) => e = .returned (.int .i64 0) ∧ ∃ (ka' : Option Addr) (kc' : Nat), RdAt w' b t o ∧ PV w0 w' b sort vs la lc (ks ++ [k]) ka' kc'
theorem kyE_none {w0 : World} {b : Nat} {o sort : Int} {vs : List VD} {la : Option Addr} {lc : Nat} {ks : List Nm} {res : Option (Nm × Nm)} {w' : World} {t : Nm} {ks' : List Nm} {ka' : Option Addr} {kc' : Nat} (h : res = none) (h1 : RdAt w' b t o) (h2 : PV w0 w' b sort vs la lc ks' ka' kc') : KyE w0 b o sort vs la lc ks res (.returned (.int .i64 21)) w' := by
  rw [h]; exact ⟨rfl, t, ks', ka', kc', h1, h2⟩
theorem kyE_some {w0 : World} {b : Nat} {o sort : Int} {vs : List VD} {la : Option Addr} {lc : Nat} {ks : List Nm} {res : Option (Nm × Nm)} {w' : World} {k t : Nm} {ka' : Option Addr} {kc' : Nat} (h : res = some (k, t)) (h1 : RdAt w' b t o) (h2 : PV w0 w' b sort vs la lc (ks ++ [k]) ka' kc') : KyE w0 b o sort vs la lc ks res (.returned (.int .i64 0)) w' := by
  rw [h]; exact ⟨rfl, ka', kc', h1, h2⟩

set_option maxHeartbeats 4000000 in
theorem key_any (b : Nat) (s : Nm) (o : Int) (sort : Int) (w0 w : World) (vs : List VD) (la : Option Addr) (lc : Nat) (ks : List Nm) (ka : Option Addr) (kc : Nat) (hb : b < w0.heap.size) (h : RdAt w b s o) (hs : s.length ≤ 1048576) (hks : ks.length ≤ 1048576) (hP : PV w0 w b sort vs la lc ks ka kc) :
    Calls Tryz.prog 98 #[.pointer (some ⟨b, 0, none⟩), .pointer (some ⟨w0.heap.size + 2, 0, none⟩)] w (KyE w0 b o sort vs la lc ks (keyL s ks)) := by
  have hkl : keyL s ks = match quoteL (skip s) with | none => none | some (k, r) => if k ∈ ks then none else match takes [58] (skip r) with | none => none | some r => some (k, r) := rfl
  have Hkl := Lib.hid hkl
  obtain ⟨res, hres⟩ : ∃ res, res = keyL s ks := ⟨_, rfl⟩
  rw [← hres] at Hkl ⊢
  have h1 := skip_any b s o w h
  have H1 := Lib.hid h1
  have HP := Lib.hid hP
  have hsk := skip_len s
  clear hkl hres h1 h hP
  go_enter Tryz.func98, Tryz.ntmps98
  go_wp2_with fail
  refine H1.out.mono ?_
  rintro e w1 ⟨rfl, hk1, hr1⟩
  have HP1 := Lib.hid (HP.out.turn hb hk1)
  have HR1 := Lib.hid hr1
  clear hk1 hr1 H1 HP
  go_wp2_with fail
  refine (quote_any b (skip s) o w1 HR1.out (by omega)).mono ?_
  cases hq : quoteL (skip s) with
  | none =>
    rintro e w2 ⟨x, t, rfl, hk2, hr2⟩
    have HP2 := Lib.hid (HP1.out.turn hb hk2)
    have HR2 := Lib.hid hr2
    have hn : res = none := by rw [Hkl.out, hq]
    have Hn := Lib.hid hn
    clear hk2 hr2 hq hn
    unfold strV
    go_wp2
    go_ret
    exact kyE_none Hn.out HR2.out HP2.out
  | some p =>
    obtain ⟨k, r⟩ := p
    rintro e w2 ⟨rfl, hk2, hr2⟩
    have hp2 := HP1.out.turn hb hk2
    have HR2 := Lib.hid hr2
    have hlen := quoteL_len hq
    have hn : res = if k ∈ ks then none else match takes [58] (skip r) with | none => none | some r => some (k, r) := by rw [Hkl.out, hq]
    have hcon := contains_any ka kc ks k w2 hp2.kown.row hks
    have c5 := hp2.blk.cell 5
    have f5 := hp2.blk.free 5
    simp only [List.getElem?_toArray, List.getElem?_cons_zero, List.getElem?_cons_succ] at c5
    have HP2 := Lib.hid hp2
    have Hcon := Lib.hid hcon
    have HN := Lib.hid hn
    clear hk2 hr2 hq hn hcon hp2
    unfold strV
    go_wp2_with fail
    refine Hcon.out.mono ?_
    rintro e w3 ⟨rfl, rfl⟩
    by_cases hm : k ∈ ks
    · have hn : res = none := by rw [HN.out, if_pos hm]
      have Hn := Lib.hid hn
      have hd : decide (k ∈ ks) = true := decide_eq_true hm
      rw [hd]
      clear hn hm hd Hcon
      go_wp2
      go_ret
      exact kyE_none Hn.out HR2.out HP2.out
    · have hn : res = match takes [58] (skip r) with | none => none | some r => some (k, r) := by rw [HN.out, if_neg hm]
      have Hn := Lib.hid hn
      have hd : decide (k ∈ ks) = false := decide_eq_false hm
      rw [hd]
      have hg2 : w0.heap.size + 2 < w3.heap.size := HP2.out.blk.lt
      have hcap := HP2.out.kown.le
      clear hn hm hd Hcon
      go_wp2_with (at_builtin; refine wpList_append_Own rfl _ _ 24 rfl (w0.heap.size + 3) 9 _ 1 16 Tryz.underlying24 Tryz.infoStr rfl (by decide) ka ks.length kc _ rfl (by exact HP2.out.kown.alloc _) _ 1 1 [strV k] rfl (Row.new1 (by simp) rfl rfl) (by intro u hu; simp at hu; subst hu; rfl) (by unfold maxLen; omega) (by omega) (by simp; omega) ?_; intro a5 c5' w5 hown5 hg5 hbk5; have q5 : Blk w5 _ _ _ := (HP2.out.blk.alloc _).grown hg5 (HP2.out.kown.apart (by omega)); have q5c := q5.cell 5; have q5f := q5.free 5; clear q5; simp only [List.getElem?_toArray, List.getElem?_cons_zero, List.getElem?_cons_succ] at q5c)
      have HP5 : Hid (PV w0 (w5.setCell ⟨w0.heap.size + 2, 5, none⟩ (.slice a5 (ks.length + 1) c5')) b sort vs la lc (ks ++ [k]) a5 c5') := Lib.hid ((HP2.out.ext hb (below_a1 _ _)).pushKey (by rw [List.map_append]; exact hown5) hg5 (by
        rcases hbk5 with h | h
        · exact .inl h
        · exact .inr ⟨_, h, Nat.le_refl _⟩))
      have hrd5 : RdAt (w5.setCell ⟨w0.heap.size + 2, 5, none⟩ (.slice a5 (ks.length + 1) c5')) b r o := Blk.other (p := ⟨w0.heap.size + 2, 5, none⟩) (Blk.grown (Blk.alloc HR2.out _) hg5 (HP2.out.kown.apart (by omega))) (by show b ≠ w0.heap.size + 2; omega) _
      have HR5 := Lib.hid hrd5
      clear hown5 hg5 hbk5 q5c q5f hrd5 HP2 HR2 c5 f5
      generalize w5.setCell ⟨w0.heap.size + 2, 5, none⟩ (.slice a5 (ks.length + 1) c5') = w6 at *
      refine (skip_any b r o w6 HR5.out).mono ?_
      rintro e w7 ⟨rfl, hk7, hr7⟩
      have HP7 := Lib.hid (HP5.out.turn hb hk7)
      have HR7 := Lib.hid hr7
      clear hk7 hr7 HP5 HR5
      cases ht : takes [58] (skip r) with
      | none =>
        have hn : res = none := by rw [Hn.out, ht]
        have HN2 := Lib.hid hn
        have HT := Lib.hid ht
        clear hn ht
        go_wp2_with fail
        refine (takes_no b (skip r) [58] o w7 HR7.out HT.out).mono ?_
        rintro e w8 ⟨rfl, hk8, hr8⟩
        have HP8 := Lib.hid (HP7.out.turn hb hk8)
        have HR8 := Lib.hid hr8
        clear hk8 hr8
        go_wp2
        go_ret
        exact kyE_none HN2.out HR8.out HP8.out
      | some r2 =>
        have hn : res = some (k, r2) := by rw [Hn.out, ht]
        have HN2 := Lib.hid hn
        have HT := Lib.hid ht
        clear hn ht
        go_wp2_with fail
        refine (takes_yes b (skip r) [58] r2 o w7 HR7.out HT.out).mono ?_
        rintro e w8 ⟨rfl, hk8, hr8⟩
        have HP8 := Lib.hid (HP7.out.turn hb hk8)
        have HR8 := Lib.hid hr8
        clear hk8 hr8
        go_wp2
        go_ret
        exact kyE_some HN2.out HR8.out HP8.out
end Go.Proofs.YthnbeebilomchaaGreatDoor

namespace Go.Proofs.YthnbeebilomchaaGreatDoor
open Go Go.RowKit

theorem setCell_comm {w : World} {p q : Addr} {u v : Value} (h : p.block ≠ q.block) : (w.setCell p u).setCell q v = (w.setCell q v).setCell p u := by
  unfold World.setCell
  simp only [World.mk.injEq, and_true]
  apply Array.ext
  · simp
  · intro i h1 h2
    simp only [Array.getElem_modify]
    by_cases a : p.block = i
    · have b : ¬ q.block = i := fun b => h (a.trans b.symm)
      simp [a, b]
    · by_cases b : q.block = i
      · simp [a, b]
      · simp [a, b]
/-- six cells put, from o on -/
def put6 (w : World) (g o : Nat) (u0 u1 u2 u3 u4 u5 : Value) : World :=
  (((((w.setCell ⟨g, o, none⟩ u0).setCell ⟨g, o + 1, none⟩ u1).setCell ⟨g, o + 2, none⟩ u2).setCell ⟨g, o + 3, none⟩ u3).setCell ⟨g, o + 4, none⟩ u4).setCell ⟨g, o + 5, none⟩ u5
theorem put6_comm {w : World} {g o : Nat} {u0 u1 u2 u3 u4 u5 : Value} {q : Addr} {v : Value} (h : g ≠ q.block) : put6 (w.setCell q v) g o u0 u1 u2 u3 u4 u5 = (put6 w g o u0 u1 u2 u3 u4 u5).setCell q v := by
  have h' : ∀ j, (⟨g, j, none⟩ : Addr).block ≠ q.block := fun j => h
  unfold put6
  rw [setCell_comm (p := ⟨g, o + 5, none⟩) (h' _), setCell_comm (p := ⟨g, o + 4, none⟩) (h' _), setCell_comm (p := ⟨g, o + 3, none⟩) (h' _), setCell_comm (p := ⟨g, o + 2, none⟩) (h' _), setCell_comm (p := ⟨g, o + 1, none⟩) (h' _), setCell_comm (p := ⟨g, o, none⟩) (h' _)]

theorem dec_any (b n0 : Nat) (s : Nm) (o : Int) (u : FrameMode) (w : World) (hbox : Blk w n0 #[.pointer (some ⟨b, 0, none⟩)] 106) (h : RdAt w b s (o + 1)) (ho : 0 ≤ o) (ho2 : o ≤ 1000) :
    CallsD Tryz.prog 97 #[.pointer (some ⟨n0, 0, none⟩)] u w fun e u' w' => u' = u ∧ (e = .returned (.tuple #[]) ∧ w' = w.setCell ⟨b, 1, none⟩ (.int .i64 o)) := by
  have c0 := hbox.cell 0
  have c1 := h.c1
  have f1 := Blk.free h 1
  simp only [List.getElem?_toArray, List.getElem?_cons_zero] at c0
  go_enter_d Tryz.func97, Tryz.ntmps97
  go_wp2
  go_end0
  exact ⟨rfl, by simp⟩
theorem RdAt.open {w : World} {b : Nat} {s : Nm} {o : Int} (h : RdAt w b s o) (o' : Int) : RdAt (w.setCell ⟨b, 1, none⟩ (.int .i64 o')) b s o' := Blk.set h 1 _
theorem rowOf_pos {a : Option Addr} {c : Nat} (h : 0 < c) : rowOf a c = blockOf a := by unfold rowOf; rw [if_neg (by omega)]
/-- a value put into a row's last place -/
theorem Own.put6 {w : World} {base : Nat} {e : TypeId} {g off cap : Nat} {vs : List VD} {z0 z1 z2 z3 z4 z5 : Value} (x : VD) (h : Own w base e 6 (some ⟨g, off, none⟩) (vs.length + 1) cap (vs.flatMap VD.cells ++ [z0, z1, z2, z3, z4, z5])) :
    Own (put6 w g (off + vs.length * 6) (.int .i64 x.sort) (.bool x.on) (.int .i64 x.n) (.string ⟨x.text.toArray⟩) (.slice x.a x.list.length x.c) (.slice x.ka x.keys.length x.kc)) base e 6 (some ⟨g, off, none⟩) (vs.length + 1) cap ((vs ++ [x]).flatMap VD.cells) := by
  have h0 := (h.store (j := vs.length * 6) (by omega) (.int .i64 x.sort)).2.1
  have h1 := (h0.store (j := vs.length * 6 + 1) (by omega) (.bool x.on)).2.1
  have h2 := (h1.store (j := vs.length * 6 + 2) (by omega) (.int .i64 x.n)).2.1
  have h3 := (h2.store (j := vs.length * 6 + 3) (by omega) (.string ⟨x.text.toArray⟩)).2.1
  have h4 := (h3.store (j := vs.length * 6 + 4) (by omega) (.slice x.a x.list.length x.c)).2.1
  have h5 := (h4.store (j := vs.length * 6 + 5) (by omega) (.slice x.ka x.keys.length x.kc)).2.1
  have hl : (vs.flatMap VD.cells).length = vs.length * 6 := flat_length VD.cells 6 VD.len vs
  have e : ((((((vs.flatMap VD.cells ++ [z0, z1, z2, z3, z4, z5]).set (vs.length * 6) (.int .i64 x.sort)).set (vs.length * 6 + 1) (.bool x.on)).set (vs.length * 6 + 2) (.int .i64 x.n)).set (vs.length * 6 + 3) (.string ⟨x.text.toArray⟩)).set (vs.length * 6 + 4) (.slice x.a x.list.length x.c)).set (vs.length * 6 + 5) (.slice x.ka x.keys.length x.kc) = (vs ++ [x]).flatMap VD.cells := by
    rw [List.flatMap_append, List.flatMap_singleton, ← hl, show x.cells = [.int .i64 x.sort, .bool x.on, .int .i64 x.n, .string ⟨x.text.toArray⟩, .slice x.a x.list.length x.c, .slice x.ka x.keys.length x.kc] from by cases x; rfl]
    simp
  rw [e] at h5
  simpa [Go.Proofs.YthnbeebilomchaaGreatDoor.put6, Nat.add_assoc] using h5
theorem Own.slots6 {w : World} {base : Nat} {e : TypeId} {g off cap : Nat} {vs : List VD} {z0 z1 z2 z3 z4 z5 : Value} (h : Own w base e 6 (some ⟨g, off, none⟩) (vs.length + 1) cap (vs.flatMap VD.cells ++ [z0, z1, z2, z3, z4, z5])) :
    (w.cell? ⟨g, off + vs.length * 6, none⟩ = some z0 ∧ w.cell? ⟨g, off + vs.length * 6 + 1, none⟩ = some z1 ∧ w.cell? ⟨g, off + vs.length * 6 + 2, none⟩ = some z2 ∧ w.cell? ⟨g, off + vs.length * 6 + 3, none⟩ = some z3 ∧ w.cell? ⟨g, off + vs.length * 6 + 4, none⟩ = some z4 ∧ w.cell? ⟨g, off + vs.length * 6 + 5, none⟩ = some z5) ∧
    (w.frozen? ⟨g, off + vs.length * 6, none⟩ = false ∧ w.frozen? ⟨g, off + vs.length * 6 + 1, none⟩ = false ∧ w.frozen? ⟨g, off + vs.length * 6 + 2, none⟩ = false ∧ w.frozen? ⟨g, off + vs.length * 6 + 3, none⟩ = false ∧ w.frozen? ⟨g, off + vs.length * 6 + 4, none⟩ = false ∧ w.frozen? ⟨g, off + vs.length * 6 + 5, none⟩ = false) ∧ base ≤ g := by
  have hl : (vs.flatMap VD.cells).length = vs.length * 6 := flat_length VD.cells 6 VD.len vs
  obtain ⟨b, o, he, hc⟩ := h.row.2 (by omega)
  cases he
  have hc' : ∀ i, i < 6 → w.cell? ⟨g, off + vs.length * 6 + i, none⟩ = [z0, z1, z2, z3, z4, z5][i]? := fun i hi => by
    rw [Nat.add_assoc, hc (vs.length * 6 + i) (by omega), List.getElem?_append_right (by omega), hl]
    congr 1
    omega
  have hf : ∀ i, i < 6 → w.frozen? ⟨g, off + vs.length * 6 + i, none⟩ = false := fun i hi => by
    rw [Nat.add_assoc]; exact (h.store (j := vs.length * 6 + i) (by omega) (.int .i64 0)).1
  exact ⟨⟨hc' 0 (by omega), hc' 1 (by omega), hc' 2 (by omega), hc' 3 (by omega), hc' 4 (by omega), hc' 5 (by omega)⟩, ⟨hf 0 (by omega), hf 1 (by omega), hf 2 (by omega), hf 3 (by omega), hf 4 (by omega), hf 5 (by omega)⟩, h.base rfl⟩
theorem put6_other {w : World} {g o : Nat} {u0 u1 u2 u3 u4 u5 : Value} {k : Nat} (h : k ≠ g) : (put6 w g o u0 u1 u2 u3 u4 u5).heap[k]? = w.heap[k]? := by
  have h' : ∀ j, k ≠ (⟨g, j, none⟩ : Addr).block := fun j => h
  unfold put6
  rw [Below.heap_setCell _ _ _ k (h' _), Below.heap_setCell _ _ _ k (h' _), Below.heap_setCell _ _ _ k (h' _), Below.heap_setCell _ _ _ k (h' _), Below.heap_setCell _ _ _ k (h' _), Below.heap_setCell _ _ _ k (h' _)]
theorem put6_below {w w' : World} {B g o : Nat} {u0 u1 u2 u3 u4 u5 : Value} (h : Below B w w') (hg : B ≤ g) : Below B w (put6 w' g o u0 u1 u2 u3 u4 u5) := by
  unfold put6
  exact (((((h.setCell (p := ⟨g, o, none⟩) hg _).setCell (p := ⟨g, o + 1, none⟩) hg _).setCell (p := ⟨g, o + 2, none⟩) hg _).setCell (p := ⟨g, o + 3, none⟩) hg _).setCell (p := ⟨g, o + 4, none⟩) hg _).setCell (p := ⟨g, o + 5, none⟩) hg _
end Go.Proofs.YthnbeebilomchaaGreatDoor

namespace Go.Proofs.YthnbeebilomchaaGreatDoor
open Go Go.RowKit

/-- the world behind parts' three boxes -/
def box3 (w : World) (b : Nat) (sort : Int) : World :=
  ((w.alloc (.cells #[.pointer (some ⟨b, 0, none⟩)] 106)).alloc (.cells #[.int .i64 0, .bool false, .int .i64 0, .string { data := #[] }, .slice none 0 0, .slice none 0 0] 36)).alloc (.cells #[.int .i64 sort, .bool false, .int .i64 0, .string { data := #[] }, .slice none 0 0, .slice none 0 0] 36)
theorem box3_below (w : World) (b : Nat) (sort : Int) : Below w.heap.size w (box3 w b sort) := ((below_a1 w _).alloc (by simp) _).alloc (by simp; omega) _
theorem box3_pv (w : World) (b : Nat) (sort : Int) : PV w (box3 w b sort) b sort [] none 0 [] none 0 :=
  ⟨((Blk.new rfl).alloc _).alloc _, (Blk.new (by simp)).alloc _, Blk.new (by simp), Own.nil _ _ _ _, Own.nil _ _ _ _, by simp, (((Keep.refl b w).alloc _).alloc _).alloc _⟩
theorem Keep.open {b : Nat} {w w' : World} (h : Keep b w w') (u : Value) : Keep b w (w'.setCell ⟨b, 1, none⟩ u) := h.set 1 u

theorem leaves_end {W : World} {tm : Array Value} {R : Ending → World → Prop} {g : Nat} {u0 u1 u2 u3 u4 u5 : Value} {k : Int} (h6 : tm.getD 6 undef = .pointer (some ⟨g, 0, none⟩)) (h7 : tm.getD 7 undef = .int .i64 k) (hB : Blk W g #[u0, u1, u2, u3, u4, u5] 36)
    (hR : R (.returned (.tuple #[.agg #[u0, u1, u2, u3, u4, u5], .int .i64 k])) W) : Leaves Tryz.prog Tryz.f76 tm R [] .returning W := by
  have d0 := hB.cell 0
  have d1 := hB.cell 1
  have d2 := hB.cell 2
  have d3 := hB.cell 3
  have d4 := hB.cell 4
  have d5 := hB.cell 5
  simp only [List.getElem?_toArray, List.getElem?_cons_zero, List.getElem?_cons_succ] at d0 d1 d2 d3 d4 d5
  rw [Array.getD_eq_getD_getElem?] at h6 h7
  simp [Leaves, results, Tryz.results76, go_sem, h6, h7, d0, d1, d2, d3, d4, d5]
  exact hR
/-- the deferred call, and the end -/
theorem leaves_dec {W : World} {tm : Array Value} {R : Ending → World → Prop} {b n0 g : Nat} {s : Nm} {o : Int} {u0 u1 u2 u3 u4 u5 : Value} {k : Int} (h6 : tm.getD 6 undef = .pointer (some ⟨g, 0, none⟩)) (h7 : tm.getD 7 undef = .int .i64 k) (hB : Blk W g #[u0, u1, u2, u3, u4, u5] 36)
    (hbox : Blk W n0 #[.pointer (some ⟨b, 0, none⟩)] 106) (hr : RdAt W b s (o + 1)) (ho : 0 ≤ o) (ho2 : o ≤ 1000) (hg : g ≠ b)
    (hR : R (.returned (.tuple #[.agg #[u0, u1, u2, u3, u4, u5], .int .i64 k])) (W.setCell ⟨b, 1, none⟩ (.int .i64 o))) :
    Leaves Tryz.prog Tryz.f76 tm R [{ target := .fn (.func 97) #[.pointer (some ⟨n0, 0, none⟩)], args := #[] }] .returning W := by
  refine leaves_cons (f := 97) (args := #[.pointer (some ⟨n0, 0, none⟩)]) (by simp) (by simp [go_sem]) ?_
  refine (dec_any b n0 s o .returning W hbox hr ho ho2).mono ?_
  rintro e u' w'' ⟨rfl, rfl, rfl⟩
  exact leaves_end h6 h7 (Blk.other (p := ⟨b, 1, none⟩) hB hg _) hR
set_option maxHeartbeats 2000000 in
theorem parts_deep (b : Nat) (s : Nm) (o : Nat) (sort : Int) (e : UInt8) (w : World) (h : RdAt w b s o) (ho : 20 ≤ o) (ho2 : o ≤ 100) (res : Res) (hres : res = .err 22) :
    Calls Tryz.prog 76 #[.pointer (some ⟨b, 0, none⟩), .int .i64 sort, .string ⟨([e] : Nm).toArray⟩] w (VaE w b o res) := by
  have hbl := Blk.lt h
  have hoi : (20 : Int) ≤ o := by omega
  have h3 := h.ext (box3_below w b sort)
  have c1 := h3.c1
  have f1 := Blk.free h3 1
  obtain ⟨W4, hW4⟩ : ∃ W4, W4 = (box3 w b sort).setCell ⟨b, 1, none⟩ (.int .i64 ((o : Int) + 1)) := ⟨_, rfl⟩
  have hp : PV w W4 b sort [] none 0 [] none 0 := by rw [hW4]; exact (box3_pv w b sort).turn hbl ((Keep.refl b _).open _)
  have h4 : RdAt W4 b s ((o : Int) + 1) := by rw [hW4]; exact h3.open _
  unfold box3 at c1 f1 hW4
  have HP := Lib.hid hp
  have H4 := Lib.hid h4
  have HE := Lib.hid hres
  clear h hres h3 hp h4
  go_enter_defers Tryz.func76, Tryz.ntmps76
  go_upto_region 3 with (fail)
  rw [← hW4]
  clear hW4 c1 f1
  have c1 := H4.out.c1
  have b0 := HP.out.box.cell 0
  have q0 := HP.out.res.cell 0
  have q1 := HP.out.res.cell 1
  have q2 := HP.out.res.cell 2
  have q3 := HP.out.res.cell 3
  have q4 := HP.out.res.cell 4
  have q5 := HP.out.res.cell 5
  have g0 := HP.out.res.free 0
  have g1 := HP.out.res.free 1
  have g2 := HP.out.res.free 2
  have g3 := HP.out.res.free 3
  have g4 := HP.out.res.free 4
  have g5 := HP.out.res.free 5
  unfold zeroV at q0 q1 q2 q3 q4 q5
  simp only [List.getElem?_toArray, List.getElem?_cons_zero] at b0 q0 q1 q2 q3 q4 q5
  go_wp2
  refine leaves_end (g := w.heap.size + 1) rfl rfl (store6 HP.out.res) ?_
  exact vaE_err HE.out (HP.out.keep.put6 (by omega) _ _ _ _ _ _) (H4.out.put6 (by omega) _ _ _ _ _ _)

set_option maxHeartbeats 2000000 in
theorem parts_empty (b : Nat) (s r : Nm) (o : Nat) (sort : Int) (e : UInt8) (w : World) (h : RdAt w b s o) (ho : o < 20) (ht : takes [e] (skip s) = some r) (res : Res) (hres : res = .ok (.mk sort false 0 [] [] []) r) :
    Calls Tryz.prog 76 #[.pointer (some ⟨b, 0, none⟩), .int .i64 sort, .string ⟨([e] : Nm).toArray⟩] w (VaE w b o res) := by
  have hmf : ∀ (fn : Fn) (first cap : Array Value) (w : World), (Instr.makeFunc fn first cap).run Tryz.prog w = .ok (.func fn first cap) w := fun _ _ _ _ => rfl
  have hbl := Blk.lt h
  have hoi : (o : Int) < 20 := by omega
  have hoj : (0 : Int) ≤ (o : Int) := by omega
  have h3 := h.ext (box3_below w b sort)
  have c1 := h3.c1
  have f1 := Blk.free h3 1
  obtain ⟨W4, hW4⟩ : ∃ W4, W4 = (box3 w b sort).setCell ⟨b, 1, none⟩ (.int .i64 ((o : Int) + 1)) := ⟨_, rfl⟩
  have hp : PV w W4 b sort [] none 0 [] none 0 := by rw [hW4]; exact (box3_pv w b sort).turn hbl ((Keep.refl b _).open _)
  have h4 : RdAt W4 b s ((o : Int) + 1) := by rw [hW4]; exact h3.open _
  unfold box3 at c1 f1 hW4
  have HP := Lib.hid hp
  have H4 := Lib.hid h4
  have HE := Lib.hid hres
  have HT := Lib.hid ht
  clear h hres h3 hp h4 ht
  go_enter_defers Tryz.func76, Tryz.ntmps76
  go_upto_region 3 with (fail)
  rw [← hW4]
  clear hW4 c1 f1
  have c1 := H4.out.c1
  have b0 := HP.out.box.cell 0
  simp only [List.getElem?_toArray, List.getElem?_cons_zero] at b0
  go_wp2_with fail
  refine (skip_any b s _ W4 H4.out).mono ?_
  rintro e' w5 ⟨rfl, hk5, hr5⟩
  have hp5 := HP.out.turn hbl hk5
  have HP5 := Lib.hid hp5
  have HR5 := Lib.hid hr5
  clear hk5 hr5 b0 c1 hp5
  have b0 := HP5.out.box.cell 0
  simp only [List.getElem?_toArray, List.getElem?_cons_zero] at b0
  go_wp2_with fail
  refine (takes_yes b (skip s) [e] r _ w5 HR5.out HT.out).mono ?_
  rintro e' w6 ⟨rfl, hk6, hr6⟩
  have HP6 := Lib.hid (HP5.out.turn hbl hk6)
  have HR6 := Lib.hid hr6
  clear hk6 hr6 b0
  have q0 := HP6.out.res.cell 0
  have q1 := HP6.out.res.cell 1
  have q2 := HP6.out.res.cell 2
  have q3 := HP6.out.res.cell 3
  have q4 := HP6.out.res.cell 4
  have q5 := HP6.out.res.cell 5
  have g0 := HP6.out.res.free 0
  have g1 := HP6.out.res.free 1
  have g2 := HP6.out.res.free 2
  have g3 := HP6.out.res.free 3
  have g4 := HP6.out.res.free 4
  have g5 := HP6.out.res.free 5
  unfold zeroV at q0 q1 q2 q3 q4 q5
  simp only [List.getElem?_toArray, List.getElem?_cons_zero, List.getElem?_cons_succ] at q0 q1 q2 q3 q4 q5
  have v0 := HP6.out.blk.cell 0
  have v1 := HP6.out.blk.cell 1
  have v2 := HP6.out.blk.cell 2
  have v3 := HP6.out.blk.cell 3
  have v4 := HP6.out.blk.cell 4
  have v5 := HP6.out.blk.cell 5
  simp only [List.getElem?_toArray, List.getElem?_cons_zero, List.getElem?_cons_succ] at v0 v1 v2 v3 v4 v5
  go_wp2
  refine leaves_dec (n0 := w.heap.size) (g := w.heap.size + 1) (b := b) (s := r) (o := o) rfl rfl (store6 HP6.out.res) ?_ ?_ hoj (by omega) (by omega) ?_
  · exact (((((HP6.out.box.other (p := ⟨w.heap.size + 1, 0, none⟩) (by show w.heap.size ≠ w.heap.size + 1; omega) _).other (p := ⟨w.heap.size + 1, 1, none⟩) (by show w.heap.size ≠ w.heap.size + 1; omega) _).other (p := ⟨w.heap.size + 1, 2, none⟩) (by show w.heap.size ≠ w.heap.size + 1; omega) _).other (p := ⟨w.heap.size + 1, 3, none⟩) (by show w.heap.size ≠ w.heap.size + 1; omega) _).other (p := ⟨w.heap.size + 1, 4, none⟩) (by show w.heap.size ≠ w.heap.size + 1; omega) _).other (p := ⟨w.heap.size + 1, 5, none⟩) (by show w.heap.size ≠ w.heap.size + 1; omega) _
  · exact HR6.out.put6 (by omega) _ _ _ _ _ _
  · exact vaE_leaf HE.out ((HP6.out.keep.put6 (by omega) _ _ _ _ _ _).open _) ((HR6.out.put6 (by omega) _ _ _ _ _ _).open _)
end Go.Proofs.YthnbeebilomchaaGreatDoor
