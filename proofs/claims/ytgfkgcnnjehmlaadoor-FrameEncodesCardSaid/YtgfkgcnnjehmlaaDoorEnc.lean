/- Encode, the program's, walked. -/
import Derived.Test.YtgfkgcnnjehmlaaDoorBuild
namespace Go.Proofs.YtgfkgcnnjehmlaaDoor
open Go Go.RowKit

theorem headL_len (n : Nat) (h : n ≤ 65536) : (headL n).length ≤ 30 := by
  have := dec_len n h
  simp [headL, wordL, endL]; omega
theorem encL_len {l : List (List UInt8)} (h : ∀ x ∈ l, x.length ≤ 65536) : (encL l).length ≤ l.length * 65600 := by
  induction l with
  | nil => simp [encL]
  | cons x l ih =>
    have h1 := headL_len x.length (h x (by simp))
    have h2 := h x (by simp)
    have h3 := ih fun y hy => h y (by simp [hy])
    simp only [encL, List.length_append, List.length_cons, Nat.add_mul]; omega

/-- Encode's two results -/
def EncR (l : List (List UInt8)) (v : Value) (_ : World) : Prop :=
  ((∀ x ∈ l, x.length ≤ 65536) ∧ v = .tuple #[strV (encL l), .int .i64 0]) ∨ (¬ (∀ x ∈ l, x.length ≤ 65536) ∧ v = .tuple #[strV [], .int .i64 31])

theorem builderAt_ext {T e : TypeId} {B b : Nat} {p : Value} {bs : List Value} {w w' : World} (h : Lib.BuilderAt T e B b p bs w) (hb : Below w.heap.size w w') : Lib.BuilderAt T e B b p bs w' := by
  obtain ⟨h1, v, h2, h3, h4⟩ := h
  refine ⟨h1, v, (hb.block b (Array.getElem?_eq_some_iff.1 h2).1).trans h2, ⟨h3.1, ?_⟩, h4⟩
  rcases h3.2 with h5 | ⟨g, cap, cur, r1, r2, r3, r4⟩
  · exact .inl h5
  · exact .inr ⟨g, cap, cur, r1, r2, (hb.block g (Array.getElem?_eq_some_iff.1 r3).1).trans r3, r4⟩
theorem builder_ext {T e : TypeId} {B b : Nat} {bs : List Value} {w w' : World} (h : Lib.IsBuilder T e B b bs w) (hb : Below w.heap.size w w') : Lib.IsBuilder T e B b bs w' :=
  h.elim (fun k => .inl (builderAt_ext k hb)) (fun k => .inr (builderAt_ext k hb))

set_option maxHeartbeats 1000000 in
theorem encode_any (a : Option Addr) (c : Nat) (l : List (List UInt8)) (w : World) (hG : Glob w) (hr : Row w 1 a l.length (l.map strV)) (hl : l.length ≤ 1048576) :
    Calls Tryd.prog 10 #[.slice a l.length c] w (Ret w (EncR l)) := by
  have HG := Lib.hid hG
  have HR := Lib.hid hr
  clear hG hr
  go_enter Tryd.func10, Tryd.ntmps10
  go_wp2_with fail
  go_loopw [9] (fun i wq => ∃ k : Nat, k ≤ l.length ∧ i = .int .i64 k ∧ Hid ((∀ x ∈ l.take k, x.length ≤ 65536) ∧ Lib.IsBuilder 43 5 w.heap.size w.heap.size (Lib.byteCells (encL (l.take k))) wq ∧ Below w.heap.size w wq)) (fun i _ => l.length - (intOf i).toNat)
  case atStart => exact ⟨0, Nat.zero_le _, rfl, by simp, Lib.fresh_isBuilder _ _ _, below_a1 _ _⟩
  case round =>
    obtain ⟨k, hk, rfl, hq⟩ := hrel
    have hbz : w.heap.size ≤ wr.heap.size := hq.out.2.2.size
    have hle := encL_len hq.out.1
    rw [List.length_take] at hle
    by_cases hlt : k < l.length
    · obtain ⟨x, hx⟩ := get_some hlt
      obtain ⟨ab, ao, rfl, v1⟩ := (HR.out.ext hq.out.2.2).elem1 hx
      have hkl : (k : Int) < l.length := by omega
      have Hx := Lib.hid hx
      have hxs : (⟨x.toArray⟩ : ByteArray).size = x.length := by simp [ByteArray.size]
      have v2 : wr.cell? ⟨ab, ao + k, none⟩ = some (.string ⟨x.toArray⟩) := v1
      obtain ⟨z, hz⟩ : ∃ z : ByteArray, z = ⟨x.toArray⟩ := ⟨_, rfl⟩
      rw [← hz] at v2 hxs
      have Hz := Lib.hid hz
      clear hx hz v1
      by_cases hbig : x.length ≤ 65536
      · have hd5 : (Lib.itoa x.length).length ≤ 5 := by rw [Lib.itoa_nonneg]; exact dec_len _ hbig
        go_wp2_with fail
        refine (Tryd.strconv_Itoa x.length (by omega) (by omega) wr (HG.out.ext hq.out.2.2).tab).mono ?_
        rintro e w1 ⟨rfl, k1, os, hw1⟩
        have hb1 : Below wr.heap.size wr w1 := by rw [hw1]; exact Lib.below_grow _ _ (Nat.le_refl _) _ _
        clear hw1
        go_wp2_with fail
        have hcat : (({ data := #[67, 111, 110, 116, 101, 110, 116, 45, 76, 101, 110, 103, 116, 104, 58, 32] } : ByteArray) ++ { data := (Lib.itoa x.length).toArray } ++ { data := #[13, 10, 13, 10] } ++ z).data.toList = headL x.length ++ x := by
          rw [Hz.out, Lib.itoa_nonneg]; simp [headL, wordL, endL]
        generalize (({ data := #[67, 111, 110, 116, 101, 110, 116, 45, 76, 101, 110, 103, 116, 104, 58, 32] } : ByteArray) ++ { data := (Lib.itoa x.length).toArray } ++ { data := #[13, 10, 13, 10] } ++ z) = y at *
        have hys : y.size ≤ 65600 := by
          have h1 : y.data.toList.length = y.size := rfl
          have h2 := headL_len x.length hbig
          rw [← h1, hcat, List.length_append]; omega
        have hbuild : Lib.IsBuilder 43 5 w.heap.size w.heap.size (Lib.byteCells (encL (l.take k))) w1 := builder_ext hq.out.2.1 hb1
        refine (write_any w.heap.size w.heap.size (Lib.byteCells (encL (l.take k))) y w1 hbuild (by rw [Lib.byteCells_length]; omega) (by have := hb1.size; omega)).mono ?_
        rintro e w2 ⟨rfl, hat, hb2⟩
        have hcells : Lib.byteCells (encL (l.take k)) ++ Lib.strCells y = Lib.byteCells (encL (l.take (k + 1))) := by
          have e1 : l.take (k + 1) = l.take k ++ [x] := by rw [List.take_add_one, Hx.out]; rfl
          rw [e1, encL_app, Lib.byteCells, Lib.byteCells, Lib.strCells, hcat]
          simp
        rw [hcells] at hat
        have hall : ∀ y ∈ l.take (k + 1), y.length ≤ 65536 := by
          intro y' hy
          rw [List.take_add_one, Hx.out] at hy
          rcases List.mem_append.1 hy with h | h
          · exact hq.out.1 y' h
          · simp at h; rw [h]; exact hbig
        have Hnext : Hid ((∀ x ∈ l.take (k + 1), x.length ≤ 65536) ∧ Lib.IsBuilder 43 5 w.heap.size w.heap.size (Lib.byteCells (encL (l.take (k + 1)))) w2 ∧ Below w.heap.size w w2) :=
          ⟨hall, .inr hat, (hq.out.2.2.trans (hb1.mono hbz)).trans hb2⟩
        clear hall hat hcells hb2 hbuild hys hcat hb1
        go_wp2_with fail
        go_roundw
        case rel => exact ⟨k + 1, by omega, by go_num, Hnext⟩
        case measure => simp [intOf]; omega
      · have hbig2 : (65536 : Int) < x.length := by omega
        go_wp2
        go_ret2
        exact ⟨_, rfl, hq.out.2.2, .inr ⟨fun h => by have := h x (List.mem_of_getElem? Hx.out); omega, rfl⟩⟩
    · obtain rfl : k = l.length := by omega
      go_wp2_with fail
      have hall := hq.out.1
      rw [List.take_of_length_le (Nat.le_refl _)] at hall
      have hbu := hq.out.2.1
      rw [List.take_of_length_le (Nat.le_refl _)] at hbu
      refine (Tryd.Builder_String_any w.heap.size w.heap.size (encL l) wr hbu hbz).mono ?_
      rintro e w1 ⟨rfl, hb1⟩
      have Hall := Lib.hid hall
      have HB := Lib.hid (hq.out.2.2.trans hb1)
      clear hall hbu hb1
      go_wp2
      go_ret2
      exact ⟨_, rfl, HB.out, .inl ⟨Hall.out, rfl⟩⟩
end Go.Proofs.YtgfkgcnnjehmlaaDoor
