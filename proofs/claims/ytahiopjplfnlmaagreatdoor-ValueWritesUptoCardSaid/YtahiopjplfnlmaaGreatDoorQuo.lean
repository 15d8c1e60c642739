/- quote: a text between quotes; walked. -/
import Derived.Test.YtahiopjplfnlmaaGreatDoorEsc
namespace Go.Proofs.YtahiopjplfnlmaaGreatDoor
open Go Go.RowKit

theorem builderAt_congr {T e : TypeId} {B b : Nat} {p : Value} {bs : List Value} {w w' : World} (h : Lib.BuilderAt T e B b p bs w) (hb : ∀ k, B ≤ k → k < w.heap.size → w'.heap[k]? = w.heap[k]?) : Lib.BuilderAt T e B b p bs w' := by
  obtain ⟨h1, v, h2, h3, h4⟩ := h
  refine ⟨h1, v, (hb b h1 (Array.getElem?_eq_some_iff.1 h2).1).trans h2, ⟨h3.1, ?_⟩, h4⟩
  rcases h3.2 with h5 | ⟨g, cap, cur, r1, r2, r3, r4⟩
  · exact .inl h5
  · exact .inr ⟨g, cap, cur, r1, r2, (hb g r2 (Array.getElem?_eq_some_iff.1 r3).1).trans r3, r4⟩
theorem builder_congr {T e : TypeId} {B b : Nat} {bs : List Value} {w w' : World} (h : Lib.IsBuilder T e B b bs w) (hb : ∀ k, B ≤ k → k < w.heap.size → w'.heap[k]? = w.heap[k]?) : Lib.IsBuilder T e B b bs w' :=
  h.elim (fun k => .inl (builderAt_congr k hb)) (fun k => .inr (builderAt_congr k hb))
theorem builder_ext {T e : TypeId} {B b : Nat} {bs : List Value} {w w' : World} (h : Lib.IsBuilder T e B b bs w) (hb : Below w.heap.size w w') : Lib.IsBuilder T e B b bs w' := builder_congr h fun k _ hk => hb.block k hk
theorem builder_keep {T e : TypeId} {B b r : Nat} {bs : List Value} {w w' : World} (h : Lib.IsBuilder T e B b bs w) (hb : Keep r w w') (hr : r < B) : Lib.IsBuilder T e B b bs w' := builder_congr h fun k hk hl => hb.2 k hl (by omega)
theorem scalarB_len (n : Nat) : (scalarB n).length ≤ 4 := by
  unfold scalarB
  repeat' split
  all_goals simp
theorem unit4_len4 {s r : Nm} {a : Nat} (h : unit4 s = some (a, r)) : r.length + 4 = s.length := by
  unfold unit4 at h
  split at h
  · split at h
    · cases h; simp only [List.length_cons]
    · cases h
  · cases h
theorem escaped_sum {s x r : Nm} (h : escaped s = some (x, r)) : x.length + r.length ≤ s.length := by
  cases s with
  | nil => cases h
  | cons c s =>
    simp only [escaped] at h
    split at h
    · injection h with h
      injection h with e1 e2
      rw [← e1, ← e2]; simp only [List.length_cons, List.length_nil]; omega
    · split at h
      · cases h
      · split at h
        · cases h
        · rename_i a r1 h1
          have l1 := unit4_len4 h1
          split at h
          · injection h with h
            injection h with e1 e2
            have := scalarB_len a
            rw [← e1, ← e2]; simp only [List.length_cons]; omega
          · split at h
            · cases h
            · rename_i r2 h2
              have l2 := takes_len h2
              split at h
              · cases h
              · rename_i b r3 h3
                have l3 := unit4_len4 h3
                split at h
                · injection h with h
                  injection h with e1 e2
                  have := scalarB_len (pairN a b)
                  rw [← e1, ← e2]; simp only [List.length_cons]; omega
                · cases h
theorem Keep.low {b B : Nat} {w w1 w' : World} (h : Keep b w w1) (k : Below B w1 w') (hB : w.heap.size ≤ B) : Keep b w w' :=
  ⟨h.1.trans (k.mono (Nat.zero_le _)), h.2.trans (But.of (k.mono hB))⟩
theorem RdAt.low {w w' : World} {b B : Nat} {s : Nm} {o : Int} (h : RdAt w b s o) (k : Below B w w') (hb : b < B) : RdAt w' b s o := Blk.below h k hb
/-- how long the text is that a reader at b holds -/
def leftAt (w : World) (b : Nat) : Nat := match w.cell? ⟨b, 0, none⟩ with | some (.string z) => z.size | _ => 0
theorem leftAt_of {w : World} {b : Nat} {s : Nm} {o : Int} (h : RdAt w b s o) : leftAt w b = s.length := by unfold leftAt; rw [h.c0]; simp only; exact size_nm s
theorem strL_cons (f : Nat) (acc : Nm) (c : UInt8) (r : Nm) : strL (f + 1) acc (c :: r) = if c < 32 then none
    else if c = 34 then some (acc, r)
    else if c = 92 then (match escaped r with | none => none | some (x, r) => strL f (acc ++ x) r)
    else strL f (acc ++ [c]) r := by rw [strL]; rfl

/-- what quote comes to -/
def QuE (w : World) (b : Nat) (o : Int) (res : Option (Nm × Nm)) (e : Ending) (w' : World) : Prop :=
  match res with
  | none => ScN w b o e w'
  | some (x, t) => ScE w b o (.tuple #[strV x, .bool true]) t e w'
theorem quE_none {w : World} {b : Nat} {o : Int} {res : Option (Nm × Nm)} {e : Ending} {w' : World} (h : res = none) (k : ScN w b o e w') : QuE w b o res e w' := by rw [h]; exact k
theorem quE_some {w : World} {b : Nat} {o : Int} {res : Option (Nm × Nm)} {e : Ending} {w' : World} {x t : Nm} (h : res = some (x, t)) (k : ScE w b o (.tuple #[strV x, .bool true]) t e w') : QuE w b o res e w' := by rw [h]; exact k
theorem quote_none (b : Nat) (s : Nm) (o : Int) (w : World) (h : RdAt w b s o) (ht : takes [34] s = none) : Calls Tryz.prog 61 #[.pointer (some ⟨b, 0, none⟩)] w (QuE w b o (quoteL s)) := by
  have hq : quoteL s = none := by unfold quoteL; rw [ht]
  have hc := takes_no b s [34] o w h ht
  have Hc := Lib.hid hc
  have Hq := Lib.hid hq
  clear h ht hc hq
  go_enter Tryz.func61, Tryz.ntmps61
  go_wp2_with fail
  refine Hc.out.mono ?_
  rintro e w1 ⟨rfl, hk, hr⟩
  have HK := Lib.hid hk
  have HR := Lib.hid hr
  clear hk hr Hc
  go_wp2
  go_ret2
  exact quE_none Hq.out (scN_nil HK.out HR.out)

set_option maxHeartbeats 4000000 in
theorem quote_some (b : Nat) (s s1 : Nm) (o : Int) (w : World) (h : RdAt w b s o) (hs : s.length ≤ 1048576) (ht : takes [34] s = some s1) : Calls Tryz.prog 61 #[.pointer (some ⟨b, 0, none⟩)] w (QuE w b o (quoteL s)) := by
  have hq : quoteL s = strL (s1.length + 1) [] s1 := by unfold quoteL; rw [ht]
  have hs1 : s1.length ≤ 1048576 := by have := takes_len ht; omega
  have hc := takes_yes b s [34] s1 o w h ht
  have Hc := Lib.hid hc
  have hbl := Blk.lt h
  rw [hq]
  obtain ⟨res, hres⟩ : ∃ res, res = strL (s1.length + 1) [] s1 := ⟨_, rfl⟩
  rw [← hres]
  have Hres := Lib.hid hres
  clear h ht hc hq hres
  go_enter Tryz.func61, Tryz.ntmps61
  go_wp2_with fail
  refine Hc.out.mono ?_
  rintro e w1 ⟨rfl, hk, hr⟩
  have HK := Lib.hid hk
  have HR := Lib.hid hr
  have hb1 : b < w1.heap.size := Nat.lt_of_lt_of_le hbl hk.size
  have hz1 := hk.size
  clear hk hr Hc
  go_wp2_with fail
  go_loopw [2, 3] (fun _ _ wr => ∃ (acc t : Nm), acc.length + t.length ≤ 1048576 ∧ Hid (res = strL (t.length + 1) acc t) ∧ Hid (RdAt wr b t o) ∧ Hid (Lib.IsBuilder 74 5 w1.heap.size w1.heap.size (Lib.byteCells acc) wr) ∧ Hid (Keep b w wr) ∧ w1.heap.size ≤ wr.heap.size) (fun _ _ wr => leftAt wr b)
  case atStart => exact ⟨[], s1, by simpa using hs1, Hres, Lib.hid (HR.out.ext (below_a1 _ _)), Lib.hid (Lib.fresh_isBuilder _ _ _), Lib.hid (HK.out.alloc _), by simp⟩
  case round =>
    obtain ⟨acc, t, hl, hq, hr, hbu, hk, hz⟩ := hrel
    have c0 := hr.out.c0
    have f0 := Blk.free hr.out 0
    cases t with
    | nil =>
      have hnone : res = none := by rw [hq.out, strL]
      have Hn := Lib.hid hnone
      clear hnone
      go_wp2
      all_goals go_ret2
      all_goals exact quE_none Hn.out (scN_nil hk.out hr.out)
    | cons c r =>
      obtain ⟨z, hz0, hz', hzs, hzc, hze, hzl, hzl2⟩ := open_cons c r
      rw [← hz'] at c0
      have hzn : (0 : Int) < z.size := by omega
      have hzn1 : (1 : Int) ≤ z.size := by omega
      have hcc : ((z[0].toNat : Nat) : Int) = (c.toNat : Int) := by rw [hzc]
      have hq2 := hq.out
      rw [List.length_cons, strL_cons] at hq2
      simp only [List.length_cons] at hl
      have hlt32 : c < 32 ↔ c.toNat < 32 := UInt8.lt_iff_toNat_lt
      clear hz' hzs hzc hq
      by_cases h32 : c < 32
      · rw [if_pos h32] at hq2
        have Hn := Lib.hid hq2
        have hc32 : (c.toNat : Int) < 32 := by have := hlt32.1 h32; omega
        clear hq2 hlt32 h32
        go_wp2
        all_goals go_ret2
        all_goals exact quE_none Hn.out (scN_nil hk.out hr.out)
      · rw [if_neg h32] at hq2
        have hc32 : (32 : Int) ≤ (c.toNat : Int) := by have : ¬ c.toNat < 32 := fun h => h32 (hlt32.2 h); omega
        have hrp := hr.out.put r
        have HRp := Lib.hid hrp
        have hkp := hk.out.set 0 (.string ⟨r.toArray⟩)
        have HKp := Lib.hid hkp
        have hbp : Lib.IsBuilder 74 5 w1.heap.size w1.heap.size (Lib.byteCells acc) (wr.setCell ⟨b, 0, none⟩ (.string ⟨r.toArray⟩)) := builder_keep hbu.out ((Keep.refl b wr).set 0 _) hb1
        have HBp := Lib.hid hbp
        clear hrp hkp hbp hlt32 h32
        by_cases h34 : c = 34
        · rw [if_pos h34] at hq2
          have Hn := Lib.hid hq2
          have hc34 : ((c.toNat : Int) == 34) = true := by rw [h34]; rfl
          clear hq2 h34
          go_wp2_with fail
          refine (Tryz.Builder_String_any w1.heap.size w1.heap.size acc _ HBp.out (by simpa using hz)).mono ?_
          rintro e w2 ⟨rfl, hb2⟩
          have HK2 := Lib.hid (HKp.out.low hb2 hz1)
          have HR2 := Lib.hid (HRp.out.low hb2 hb1)
          clear hb2
          go_wp2
          go_ret2
          exact quE_some Hn.out ⟨rfl, HK2.out, HR2.out⟩
        · rw [if_neg h34] at hq2
          have hn34 : ¬ (c.toNat : Int) = 34 := fun he => h34 (UInt8.toNat_inj.1 (by have : (34 : UInt8).toNat = 34 := rfl; omega))
          have hc34 : ((c.toNat : Int) == 34) = false := by simpa using hn34
          by_cases h92 : c = 92
          · rw [if_pos h92] at hq2
            have hc92 : ((c.toNat : Int) == 92) = true := by rw [h92]; rfl
            clear h34 h92 hn34
            cases he : escaped r with
            | none =>
              rw [he] at hq2
              simp only at hq2
              have Hn := Lib.hid hq2
              have He := Lib.hid he
              clear hq2 he
              go_wp2_with fail
              refine (escaped_no b r o _ HRp.out (by omega) He.out).mono ?_
              rintro e w2 ⟨x2, t2, rfl, hk2, hr2⟩
              have HK2 := Lib.hid (HKp.out.trans hk2)
              have HR2 := Lib.hid hr2
              clear hk2 hr2
              unfold strV
              go_wp2
              go_ret2
              exact quE_none Hn.out (scN_nil HK2.out HR2.out)
            | some p =>
              obtain ⟨x, t2⟩ := p
              rw [he] at hq2
              simp only at hq2
              have hsum := escaped_sum he
              have hlen2 := escaped_len he
              have hq3 : res = strL (t2.length + 1) (acc ++ x) t2 := by rw [hq2]; exact strL_fuel _ _ _ _ (by omega) (by omega)
              have Hn := Lib.hid hq3
              have He := Lib.hid he
              clear hq2 he hq3
              go_wp2_with fail
              refine (escaped_yes b r x t2 o _ HRp.out (by omega) He.out).mono ?_
              rintro e w2 ⟨rfl, hk2, hr2⟩
              have hz2 : w1.heap.size ≤ w2.heap.size := Nat.le_trans (by simpa using hz) hk2.size
              have HB2 := Lib.hid (builder_keep HBp.out hk2 hb1)
              have HK2 := Lib.hid (HKp.out.trans hk2)
              have HR2 := Lib.hid hr2
              have hxs := size_nm x
              clear hk2 hr2
              unfold strV
              obtain ⟨y, hy⟩ : ∃ y : ByteArray, y = ⟨x.toArray⟩ := ⟨_, rfl⟩
              rw [← hy] at hxs ⊢
              have hcells : Lib.byteCells acc ++ Lib.strCells y = Lib.byteCells (acc ++ x) := by rw [hy]; simp [Lib.byteCells, Lib.strCells]
              have Hcells := Lib.hid hcells
              have hys : (Lib.byteCells acc).length + y.size ≤ 140737488355328 := by rw [Lib.byteCells_length]; omega
              clear hy hcells
              go_wp2_with fail
              refine (write_any w1.heap.size w1.heap.size (Lib.byteCells acc) y w2 HB2.out hys hz2).mono ?_
              rintro e w3 ⟨rfl, hat, hb3⟩
              rw [Hcells.out] at hat
              have HK3 := Lib.hid (HK2.out.low hb3 hz1)
              have HR3 := Lib.hid (HR2.out.low hb3 hb1)
              have HB3 : Hid (Lib.IsBuilder 74 5 w1.heap.size w1.heap.size (Lib.byteCells (acc ++ x)) w3) := Lib.hid (.inr hat)
              have hz3 : w1.heap.size ≤ w3.heap.size := Nat.le_trans hz2 hb3.size
              have Hm : Hid (leftAt w3 b < leftAt wr b) := Lib.hid (by rw [leftAt_of HR3.out, leftAt_of hr.out, List.length_cons]; omega)
              have hl3 : (acc ++ x).length + t2.length ≤ 1048576 := by rw [List.length_append]; omega
              clear hat hb3 hxs hys
              go_wp2
              go_roundw
              case rel => exact ⟨acc ++ x, t2, hl3, Hn, HR3, HB3, HK3, hz3⟩
              case measure => exact Hm.out
          · rw [if_neg h92] at hq2
            have hn92 : ¬ (c.toNat : Int) = 92 := fun he => h92 (UInt8.toNat_inj.1 (by have : (92 : UInt8).toNat = 92 := rfl; omega))
            have hc92 : ((c.toNat : Int) == 92) = false := by simpa using hn92
            have Hn := Lib.hid hq2
            have hcells : Lib.byteCells acc ++ [Value.int .u8 c.toNat] = Lib.byteCells (acc ++ [c]) := by simp [Lib.byteCells]
            have Hcells := Lib.hid hcells
            have hys : (Lib.byteCells acc).length + 1 ≤ 140737488355328 := by rw [Lib.byteCells_length]; omega
            clear h34 h92 hn34 hn92 hq2 hcells
            go_wp2_with fail
            refine (writeB_any w1.heap.size w1.heap.size (Lib.byteCells acc) c.toNat _ HBp.out hys (by simpa using hz)).mono ?_
            rintro e w3 ⟨rfl, hat, hb3⟩
            rw [Hcells.out] at hat
            have HK3 := Lib.hid (HKp.out.low hb3 hz1)
            have HR3 := Lib.hid (HRp.out.low hb3 hb1)
            have HB3 : Hid (Lib.IsBuilder 74 5 w1.heap.size w1.heap.size (Lib.byteCells (acc ++ [c])) w3) := Lib.hid (.inr hat)
            have hz3 : w1.heap.size ≤ w3.heap.size := Nat.le_trans (by simpa using hz) hb3.size
            have Hm : Hid (leftAt w3 b < leftAt wr b) := Lib.hid (by rw [leftAt_of HR3.out, leftAt_of hr.out, List.length_cons]; omega)
            have hl3 : (acc ++ [c]).length + r.length ≤ 1048576 := by rw [List.length_append, List.length_cons, List.length_nil]; omega
            clear hat hb3 hys
            go_wp2
            go_roundw
            case rel => exact ⟨acc ++ [c], r, hl3, Hn, HR3, HB3, HK3, hz3⟩
            case measure => exact Hm.out
theorem quote_any (b : Nat) (s : Nm) (o : Int) (w : World) (h : RdAt w b s o) (hs : s.length ≤ 1048576) : Calls Tryz.prog 61 #[.pointer (some ⟨b, 0, none⟩)] w (QuE w b o (quoteL s)) := by
  cases ht : takes [34] s with
  | none => exact quote_none b s o w h ht
  | some s1 => exact quote_some b s s1 o w h hs ht
end Go.Proofs.YtahiopjplfnlmaaGreatDoor
