/- made, and a value without parts: walked. -/
import Derived.Test.YtahiopjplfnlmaaGreatDoorNumb
namespace Go.Proofs.YtahiopjplfnlmaaGreatDoor
open Go Go.RowKit

def strsV (l : List Value) : List Value := l
/-- a value without rows -/
def leafD (s : Int) (o : Bool) (n : Int) (t : Nm) : VD := .mk s o n t none 0 [] none 0 []
theorem leaf_cells (s : Int) (o : Bool) (n : Int) (t : Nm) : (leafD s o n t).val = .agg #[.int .i64 s, .bool o, .int .i64 n, .string ⟨t.toArray⟩, .slice none 0 0, .slice none 0 0] := rfl
theorem leaf_v (s : Int) (o : Bool) (n : Int) (t : Nm) : (leafD s o n t).v = .mk s o n t [] [] := by simp [leafD, VD.v, vsOf]

/-- what a reader's function that reads a value comes to: the value, new; or an error -/
def VaE (w : World) (b : Nat) (o : Int) (res : Res) (e : Ending) (w' : World) : Prop :=
  match res with
  | .out => True
  | .err k => ∃ (d : VD) (t : Nm) (o' : Int), e = .returned (.tuple #[d.val, .int .i64 k]) ∧ Keep b w w' ∧ RdAt w' b t o' ∧ o ≤ o' ∧ o' ≤ o + 1
  | .ok v t => ∃ d : VD, e = .returned (.tuple #[d.val, .int .i64 0]) ∧ d.v = v ∧ ValAt w' (fun k => w.heap.size ≤ k) d ∧ Keep b w w' ∧ RdAt w' b t o
theorem vaE_err {w : World} {b : Nat} {o : Int} {res : Res} {w' : World} {k : Int} {t : Nm} {o' : Int} (h : res = .err k) (h1 : Keep b w w') (h2 : RdAt w' b t o') (hlo : o ≤ o' := by omega) (hhi : o' ≤ o + 1 := by omega) :
    VaE w b o res (.returned (.tuple #[.agg #[.int .i64 0, .bool false, .int .i64 0, .string { data := #[] }, .slice none 0 0, .slice none 0 0], .int .i64 k])) w' := by rw [h]; exact ⟨leafD 0 false 0 [], t, o', rfl, h1, h2, hlo, hhi⟩
theorem vaE_leaf {w : World} {b : Nat} {o : Int} {res : Res} {w' : World} {s : Int} {f : Bool} {n : Int} {x t : Nm} (h : res = .ok (.mk s f n x [] []) t) (h1 : Keep b w w') (h2 : RdAt w' b t o) :
    VaE w b o res (.returned (.tuple #[.agg #[.int .i64 s, .bool f, .int .i64 n, .string ⟨x.toArray⟩, .slice none 0 0, .slice none 0 0], .int .i64 0])) w' := by
  rw [h]; exact ⟨leafD s f n x, rfl, leaf_v _ _ _ _, .leaf, h1, h2⟩

theorem made_no (v0 v1 v2 v3 v4 v5 : Value) (w : World) : Calls Tryz.prog 62 #[.agg #[v0, v1, v2, v3, v4, v5], .bool false] w (Ret w fun v _ => v = .tuple #[.agg #[.int .i64 0, .bool false, .int .i64 0, .string { data := #[] }, .slice none 0 0, .slice none 0 0], .int .i64 21]) := by
  go_enter Tryz.func62, Tryz.ntmps62
  go_wp2
  refine bodyPost_ret (v := .tuple #[.agg #[.int .i64 0, .bool false, .int .i64 0, .string { data := #[] }, .slice none 0 0, .slice none 0 0], .int .i64 21]) (by simp [results, Tryz.results62, go_sem]) rfl ?_
  exact ⟨_, rfl, (below_a1 w _).alloc (by simp) _, rfl⟩
theorem made_yes (s : Int) (f : Bool) (n : Int) (x : ByteArray) (w : World) : Calls Tryz.prog 62 #[.agg #[.int .i64 s, .bool f, .int .i64 n, .string x, .slice none 0 0, .slice none 0 0], .bool true] w (Ret w fun v _ => v = .tuple #[.agg #[.int .i64 s, .bool f, .int .i64 n, .string x, .slice none 0 0, .slice none 0 0], .int .i64 0]) := by
  go_enter Tryz.func62, Tryz.ntmps62
  go_wp2
  refine bodyPost_ret (v := .tuple #[.agg #[.int .i64 s, .bool f, .int .i64 n, .string x, .slice none 0 0, .slice none 0 0], .int .i64 0]) (by simp [results, Tryz.results62, go_sem]) rfl ?_
  exact ⟨_, rfl, (below_a1 w _).alloc (by simp) _, rfl⟩

def zeroV : Array Value := #[.int .i64 0, .bool false, .int .i64 0, .string { data := #[] }, .slice none 0 0, .slice none 0 0]
theorem comes_one (s : Nm) : comes (fun c => ([34] : Nm).contains c) s = comes (· == 34) s := by
  cases s with
  | nil => rfl
  | cons c s =>
    simp only [comes]
    rw [Bool.eq_iff_iff]; simp
theorem comes_num (s : Nm) : comes (fun c => ([45, 48, 49, 50, 51, 52, 53, 54, 55, 56, 57] : Nm).contains c) s = comes (fun c => c == 45 || isFig c) s := by
  cases s with
  | nil => rfl
  | cons c s =>
    simp only [comes]
    rw [Bool.eq_iff_iff, Bool.or_eq_true, isFig_iff]
    simp only [List.contains_cons, List.contains_nil, Bool.or_false, Bool.or_eq_true, beq_iff_eq, ← UInt8.toNat_inj]
    have h45 : (45 : UInt8).toNat = 45 := rfl
    have h0 : (48 : UInt8).toNat = 48 := rfl
    have h1 : (49 : UInt8).toNat = 49 := rfl
    have h2 : (50 : UInt8).toNat = 50 := rfl
    have h3 : (51 : UInt8).toNat = 51 := rfl
    have h4 : (52 : UInt8).toNat = 52 := rfl
    have h5 : (53 : UInt8).toNat = 53 := rfl
    have h6 : (54 : UInt8).toNat = 54 := rfl
    have h7 : (55 : UInt8).toNat = 55 := rfl
    have h8 : (56 : UInt8).toNat = 56 := rfl
    have h9 : (57 : UInt8).toNat = 57 := rfl
    omega
theorem Keep.blk {b : Nat} {w w' : World} (h : Keep b w w') {g : Nat} {cs : Array Value} {T : TypeId} (k : Blk w g cs T) (hg : g ≠ b) : Blk w' g cs T := (h.block k.lt hg).trans k
/-- what is kept since before the block g was made -/
theorem Keep.since {b : Nat} {w w' : World} {o : Obj} (h : Keep b (w.alloc o) w') : Keep b w w' := (((Keep.refl b w).alloc o).trans h)
theorem Keep.put {b : Nat} {w w' : World} (h : Keep b w w') {g : Nat} (hg : w.heap.size ≤ g) (j : Nat) (u : Value) : Keep b w (w'.setCell ⟨g, j, none⟩ u) :=
  ⟨h.1.setCell (Nat.zero_le _) _, fun k hk hne => (Below.heap_setCell w' ⟨g, j, none⟩ u k (by show k ≠ g; omega)).trans (h.2 k hk hne)⟩

theorem store6 {w : World} {g : Nat} {v0 v1 v2 v3 v4 v5 u0 u1 u2 u3 u4 u5 : Value} {T : TypeId} (h : Blk w g #[v0, v1, v2, v3, v4, v5] T) :
    Blk ((((((w.setCell ⟨g, 0, none⟩ u0).setCell ⟨g, 1, none⟩ u1).setCell ⟨g, 2, none⟩ u2).setCell ⟨g, 3, none⟩ u3).setCell ⟨g, 4, none⟩ u4).setCell ⟨g, 5, none⟩ u5) g #[u0, u1, u2, u3, u4, u5] T :=
  ((((((h.set 0 u0).set 1 u1).set 2 u2).set 3 u3).set 4 u4).set 5 u5)
theorem Keep.put6 {b : Nat} {w w' : World} (h : Keep b w w') {g : Nat} (hg : w.heap.size ≤ g) (u0 u1 u2 u3 u4 u5 : Value) :
    Keep b w ((((((w'.setCell ⟨g, 0, none⟩ u0).setCell ⟨g, 1, none⟩ u1).setCell ⟨g, 2, none⟩ u2).setCell ⟨g, 3, none⟩ u3).setCell ⟨g, 4, none⟩ u4).setCell ⟨g, 5, none⟩ u5) :=
  ((((((h.put hg 0 u0).put hg 1 u1).put hg 2 u2).put hg 3 u3).put hg 4 u4).put hg 5 u5)
theorem RdAt.put6 {b : Nat} {w : World} {s : Nm} {o : Int} (h : RdAt w b s o) {g : Nat} (hg : b ≠ g) (u0 u1 u2 u3 u4 u5 : Value) :
    RdAt ((((((w.setCell ⟨g, 0, none⟩ u0).setCell ⟨g, 1, none⟩ u1).setCell ⟨g, 2, none⟩ u2).setCell ⟨g, 3, none⟩ u3).setCell ⟨g, 4, none⟩ u4).setCell ⟨g, 5, none⟩ u5) b s o :=
  ((((((Blk.other h (p := ⟨g, 0, none⟩) hg u0).other (p := ⟨g, 1, none⟩) hg u1).other (p := ⟨g, 2, none⟩) hg u2).other (p := ⟨g, 3, none⟩) hg u3).other (p := ⟨g, 4, none⟩) hg u4).other (p := ⟨g, 5, none⟩) hg u5)
set_option maxHeartbeats 2000000 in
theorem plain_text (b : Nat) (s : Nm) (o : Int) (w : World) (hG : Glob w) (_hb8 : 8 ≤ b) (h : RdAt w b s o) (hs : s.length ≤ 1048576) (hc : comes (· == 34) s = true) : Calls Tryz.prog 46 #[.pointer (some ⟨b, 0, none⟩)] w (VaE w b o (plainL s)) := by
  have hpl : plainL s = match quoteL s with | none => .err 21 | some (t, r) => .ok (.mk 3 false 0 t [] []) r := by unfold plainL; rw [hc]; rfl
  have Hpl := Lib.hid hpl
  have HG := Lib.hid hG
  obtain ⟨res, hres⟩ : ∃ res, res = plainL s := ⟨_, rfl⟩
  rw [← hres] at Hpl ⊢
  have hbl := Blk.lt h
  have h1 := comes_any b s [34] o (w.alloc (.cells zeroV 34)) (h.ext (below_a1 _ _))
  rw [comes_one, hc] at h1
  have H1 := Lib.hid h1
  have hg : w.heap.size ≠ b := by omega
  have hz0 : Blk (w.alloc (.cells zeroV 34)) w.heap.size zeroV 34 := Blk.new rfl
  have HZ0 := Lib.hid hz0
  unfold zeroV at H1
  clear hpl hres h1 hc h hz0 hG
  go_enter Tryz.func46, Tryz.ntmps46
  go_wp2_with fail
  refine H1.out.mono ?_
  rintro e w1 ⟨rfl, hk1, hr1⟩
  have HZ1 := Lib.hid (hk1.blk HZ0.out hg)
  have HK1 := Lib.hid hk1.since
  have HR1 := Lib.hid hr1
  clear hk1 hr1
  go_wp2_with fail
  refine (quote_any b s o w1 HR1.out hs).mono ?_
  cases hq : quoteL s with
  | none =>
    rintro e w2 ⟨x, t, rfl, hk2, hr2⟩
    have HZ2 := Lib.hid (hk2.blk HZ1.out hg)
    have HK2 := Lib.hid (HK1.out.trans hk2)
    have HR2 := Lib.hid hr2
    have hE : res = .err 21 := by rw [Hpl.out, hq]
    have HE := Lib.hid hE
    clear hk2 hr2 hE hq
    unfold strV
    go_wp2_with fail
    refine (made_no _ _ _ _ _ _ _).mono ?_
    rintro e w3 ⟨_, rfl, hb3, rfl⟩
    have hz3 := HZ2.out.ext hb3
    have HK3 := Lib.hid (HK2.out.ext hb3)
    have HR3 := Lib.hid (HR2.out.ext hb3)
    clear hb3
    have c0 := hz3.cell 0
    have c1 := hz3.cell 1
    have c2 := hz3.cell 2
    have c3 := hz3.cell 3
    have c4 := hz3.cell 4
    have c5 := hz3.cell 5
    have f0 := hz3.free 0
    have f1 := hz3.free 1
    have f2 := hz3.free 2
    have f3 := hz3.free 3
    have f4 := hz3.free 4
    have f5 := hz3.free 5
    unfold zeroV at c0 c1 c2 c3 c4 c5
    simp only [List.getElem?_toArray, List.getElem?_cons_zero, List.getElem?_cons_succ] at c0 c1 c2 c3 c4 c5
    have hlt := hz3.lt
    unfold zeroV at hz3
    have hst := store6 (u0 := .int .i64 0) (u1 := .bool false) (u2 := .int .i64 0) (u3 := .string { data := #[] }) (u4 := .slice none 0 0) (u5 := .slice none 0 0) hz3
    have hkp := HK3.out.put6 (Nat.le_refl w.heap.size) (.int .i64 0) (.bool false) (.int .i64 0) (.string { data := #[] }) (.slice none 0 0) (.slice none 0 0)
    have hrp := HR3.out.put6 hg.symm (.int .i64 0) (.bool false) (.int .i64 0) (.string { data := #[] }) (.slice none 0 0) (.slice none 0 0)
    have HST := Lib.hid hst
    have HKP := Lib.hid hkp
    have HRP := Lib.hid hrp
    clear hst hkp hrp hz3
    go_wp2
    generalize hW : ((((((w3.setCell ⟨w.heap.size, 0, none⟩ (.int .i64 0)).setCell ⟨w.heap.size, 1, none⟩ (.bool false)).setCell ⟨w.heap.size, 2, none⟩ (.int .i64 0)).setCell ⟨w.heap.size, 3, none⟩ (.string { data := #[] })).setCell ⟨w.heap.size, 4, none⟩ (.slice none 0 0)).setCell ⟨w.heap.size, 5, none⟩ (.slice none 0 0)) = W at *
    have d0 := HST.out.cell 0
    have d1 := HST.out.cell 1
    have d2 := HST.out.cell 2
    have d3 := HST.out.cell 3
    have d4 := HST.out.cell 4
    have d5 := HST.out.cell 5
    simp only [List.getElem?_toArray, List.getElem?_cons_zero, List.getElem?_cons_succ] at d0 d1 d2 d3 d4 d5
    refine bodyPost_ret (v := .tuple #[.agg #[.int .i64 0, .bool false, .int .i64 0, .string { data := #[] }, .slice none 0 0, .slice none 0 0], .int .i64 21]) (by simp [results, Tryz.results46, go_sem, d0, d1, d2, d3, d4, d5]) rfl ?_
    exact vaE_err HE.out HKP.out HRP.out
  | some p =>
    obtain ⟨x, t⟩ := p
    rintro e w2 ⟨rfl, hk2, hr2⟩
    have HZ2 := Lib.hid (hk2.blk HZ1.out hg)
    have HK2 := Lib.hid (HK1.out.trans hk2)
    have HR2 := Lib.hid hr2
    have hE : res = .ok (.mk 3 false 0 x [] []) t := by rw [Hpl.out, hq]
    have HE := Lib.hid hE
    clear hk2 hr2 hE hq
    unfold strV
    go_wp2_with fail
    refine (made_yes _ _ _ _ _).mono ?_
    rintro e w3 ⟨_, rfl, hb3, rfl⟩
    have hz3 := HZ2.out.ext hb3
    have HK3 := Lib.hid (HK2.out.ext hb3)
    have HR3 := Lib.hid (HR2.out.ext hb3)
    clear hb3
    have c0 := hz3.cell 0
    have c1 := hz3.cell 1
    have c2 := hz3.cell 2
    have c3 := hz3.cell 3
    have c4 := hz3.cell 4
    have c5 := hz3.cell 5
    have f0 := hz3.free 0
    have f1 := hz3.free 1
    have f2 := hz3.free 2
    have f3 := hz3.free 3
    have f4 := hz3.free 4
    have f5 := hz3.free 5
    unfold zeroV at c0 c1 c2 c3 c4 c5
    simp only [List.getElem?_toArray, List.getElem?_cons_zero, List.getElem?_cons_succ] at c0 c1 c2 c3 c4 c5
    have hlt := hz3.lt
    unfold zeroV at hz3
    have hst := store6 (u0 := .int .i64 3) (u1 := .bool false) (u2 := .int .i64 0) (u3 := .string ⟨x.toArray⟩) (u4 := .slice none 0 0) (u5 := .slice none 0 0) hz3
    have hkp := HK3.out.put6 (Nat.le_refl w.heap.size) (.int .i64 3) (.bool false) (.int .i64 0) (.string ⟨x.toArray⟩) (.slice none 0 0) (.slice none 0 0)
    have hrp := HR3.out.put6 hg.symm (.int .i64 3) (.bool false) (.int .i64 0) (.string ⟨x.toArray⟩) (.slice none 0 0) (.slice none 0 0)
    have HST := Lib.hid hst
    have HKP := Lib.hid hkp
    have HRP := Lib.hid hrp
    clear hst hkp hrp hz3
    go_wp2
    generalize hW : ((((((w3.setCell ⟨w.heap.size, 0, none⟩ (.int .i64 3)).setCell ⟨w.heap.size, 1, none⟩ (.bool false)).setCell ⟨w.heap.size, 2, none⟩ (.int .i64 0)).setCell ⟨w.heap.size, 3, none⟩ (.string ⟨x.toArray⟩)).setCell ⟨w.heap.size, 4, none⟩ (.slice none 0 0)).setCell ⟨w.heap.size, 5, none⟩ (.slice none 0 0)) = W at *
    have d0 := HST.out.cell 0
    have d1 := HST.out.cell 1
    have d2 := HST.out.cell 2
    have d3 := HST.out.cell 3
    have d4 := HST.out.cell 4
    have d5 := HST.out.cell 5
    simp only [List.getElem?_toArray, List.getElem?_cons_zero, List.getElem?_cons_succ] at d0 d1 d2 d3 d4 d5
    refine bodyPost_ret (v := .tuple #[.agg #[.int .i64 3, .bool false, .int .i64 0, .string ⟨x.toArray⟩, .slice none 0 0, .slice none 0 0], .int .i64 0]) (by simp [results, Tryz.results46, go_sem, d0, d1, d2, d3, d4, d5]) rfl ?_
    exact vaE_leaf HE.out HKP.out HRP.out
set_option maxHeartbeats 2000000 in
theorem plain_num (b : Nat) (s : Nm) (o : Int) (w : World) (hG : Glob w) (hb8 : 8 ≤ b) (h : RdAt w b s o) (hs : s.length ≤ 1048576) (hc : comes (· == 34) s = false) (hd : comes (fun c => c == 45 || isFig c) s = true) : Calls Tryz.prog 46 #[.pointer (some ⟨b, 0, none⟩)] w (VaE w b o (plainL s)) := by
  have hpl : plainL s = match numL s with | none => .err 21 | some (n, r) => .ok (.mk 2 false n [] [] []) r := by unfold plainL; rw [hc, hd]; rfl
  have Hpl := Lib.hid hpl
  have HG := Lib.hid hG
  obtain ⟨res, hres⟩ : ∃ res, res = plainL s := ⟨_, rfl⟩
  rw [← hres] at Hpl ⊢
  have hbl := Blk.lt h
  have h1 := comes_any b s [34] o (w.alloc (.cells zeroV 34)) (h.ext (below_a1 _ _))
  rw [comes_one, hc] at h1
  have H1 := Lib.hid h1
  have hg : w.heap.size ≠ b := by omega
  have hz0 : Blk (w.alloc (.cells zeroV 34)) w.heap.size zeroV 34 := Blk.new rfl
  have HZ0 := Lib.hid hz0
  unfold zeroV at H1
  have h2 : Hid (∀ w, RdAt w b s o → Calls Tryz.prog 60 #[.pointer (some ⟨b, 0, none⟩), .string { data := #[45, 48, 49, 50, 51, 52, 53, 54, 55, 56, 57] }] w (ScE w b o (.bool true) s)) := Lib.hid fun w hw => by
    have := comes_any b s [45, 48, 49, 50, 51, 52, 53, 54, 55, 56, 57] o w hw
    rw [comes_num, hd] at this; exact this
  clear hpl hres h1 hc h hz0 hG hd
  go_enter Tryz.func46, Tryz.ntmps46
  go_wp2_with fail
  refine H1.out.mono ?_
  rintro e w1 ⟨rfl, hk1, hr1⟩
  have HZ1 := Lib.hid (hk1.blk HZ0.out hg)
  have HK1 := Lib.hid hk1.since
  have HR1 := Lib.hid hr1
  clear hk1 hr1
  go_wp2_with fail
  refine (h2.out w1 HR1.out).mono ?_
  rintro e w9 ⟨rfl, hk, hr⟩
  have HZ9 := Lib.hid (hk.blk HZ1.out hg)
  have HK9 := Lib.hid (HK1.out.trans hk)
  have HR9 := Lib.hid hr
  clear hk hr
  have HG9 := Lib.hid (HK9.out.glob HG.out hb8)
  go_wp2_with fail
  refine (number_any b s o w9 HG9.out hb8 HR9.out hs).mono ?_
  cases hq : numL s with
  | none =>
    rintro e w2 ⟨m, t, rfl, hk2, hr2⟩
    have HZ2 := Lib.hid (hk2.blk HZ9.out hg)
    have HK2 := Lib.hid (HK9.out.trans hk2)
    have HR2 := Lib.hid hr2
    have hE : res = .err 21 := by rw [Hpl.out, hq]
    have HE := Lib.hid hE
    clear hk2 hr2 hE hq
    go_wp2_with fail
    refine (made_no _ _ _ _ _ _ _).mono ?_
    rintro e w3 ⟨_, rfl, hb3, rfl⟩
    have hz3 := HZ2.out.ext hb3
    have HK3 := Lib.hid (HK2.out.ext hb3)
    have HR3 := Lib.hid (HR2.out.ext hb3)
    clear hb3
    have c0 := hz3.cell 0
    have c1 := hz3.cell 1
    have c2 := hz3.cell 2
    have c3 := hz3.cell 3
    have c4 := hz3.cell 4
    have c5 := hz3.cell 5
    have f0 := hz3.free 0
    have f1 := hz3.free 1
    have f2 := hz3.free 2
    have f3 := hz3.free 3
    have f4 := hz3.free 4
    have f5 := hz3.free 5
    unfold zeroV at c0 c1 c2 c3 c4 c5
    simp only [List.getElem?_toArray, List.getElem?_cons_zero, List.getElem?_cons_succ] at c0 c1 c2 c3 c4 c5
    have hlt := hz3.lt
    unfold zeroV at hz3
    have hst := store6 (u0 := .int .i64 0) (u1 := .bool false) (u2 := .int .i64 0) (u3 := .string { data := #[] }) (u4 := .slice none 0 0) (u5 := .slice none 0 0) hz3
    have hkp := HK3.out.put6 (Nat.le_refl w.heap.size) (.int .i64 0) (.bool false) (.int .i64 0) (.string { data := #[] }) (.slice none 0 0) (.slice none 0 0)
    have hrp := HR3.out.put6 hg.symm (.int .i64 0) (.bool false) (.int .i64 0) (.string { data := #[] }) (.slice none 0 0) (.slice none 0 0)
    have HST := Lib.hid hst
    have HKP := Lib.hid hkp
    have HRP := Lib.hid hrp
    clear hst hkp hrp hz3
    go_wp2
    generalize hW : ((((((w3.setCell ⟨w.heap.size, 0, none⟩ (.int .i64 0)).setCell ⟨w.heap.size, 1, none⟩ (.bool false)).setCell ⟨w.heap.size, 2, none⟩ (.int .i64 0)).setCell ⟨w.heap.size, 3, none⟩ (.string { data := #[] })).setCell ⟨w.heap.size, 4, none⟩ (.slice none 0 0)).setCell ⟨w.heap.size, 5, none⟩ (.slice none 0 0)) = W at *
    have d0 := HST.out.cell 0
    have d1 := HST.out.cell 1
    have d2 := HST.out.cell 2
    have d3 := HST.out.cell 3
    have d4 := HST.out.cell 4
    have d5 := HST.out.cell 5
    simp only [List.getElem?_toArray, List.getElem?_cons_zero, List.getElem?_cons_succ] at d0 d1 d2 d3 d4 d5
    refine bodyPost_ret (v := .tuple #[.agg #[.int .i64 0, .bool false, .int .i64 0, .string { data := #[] }, .slice none 0 0, .slice none 0 0], .int .i64 21]) (by simp [results, Tryz.results46, go_sem, d0, d1, d2, d3, d4, d5]) rfl ?_
    exact vaE_err HE.out HKP.out HRP.out
  | some p =>
    obtain ⟨n, t⟩ := p
    rintro e w2 ⟨rfl, hk2, hr2⟩
    have HZ2 := Lib.hid (hk2.blk HZ9.out hg)
    have HK2 := Lib.hid (HK9.out.trans hk2)
    have HR2 := Lib.hid hr2
    have hE : res = .ok (.mk 2 false n [] [] []) t := by rw [Hpl.out, hq]
    have HE := Lib.hid hE
    clear hk2 hr2 hE hq
    go_wp2_with fail
    refine (made_yes _ _ _ _ _).mono ?_
    rintro e w3 ⟨_, rfl, hb3, rfl⟩
    have hz3 := HZ2.out.ext hb3
    have HK3 := Lib.hid (HK2.out.ext hb3)
    have HR3 := Lib.hid (HR2.out.ext hb3)
    clear hb3
    have c0 := hz3.cell 0
    have c1 := hz3.cell 1
    have c2 := hz3.cell 2
    have c3 := hz3.cell 3
    have c4 := hz3.cell 4
    have c5 := hz3.cell 5
    have f0 := hz3.free 0
    have f1 := hz3.free 1
    have f2 := hz3.free 2
    have f3 := hz3.free 3
    have f4 := hz3.free 4
    have f5 := hz3.free 5
    unfold zeroV at c0 c1 c2 c3 c4 c5
    simp only [List.getElem?_toArray, List.getElem?_cons_zero, List.getElem?_cons_succ] at c0 c1 c2 c3 c4 c5
    have hlt := hz3.lt
    unfold zeroV at hz3
    have hst := store6 (u0 := .int .i64 2) (u1 := .bool false) (u2 := .int .i64 n) (u3 := .string { data := #[] }) (u4 := .slice none 0 0) (u5 := .slice none 0 0) hz3
    have hkp := HK3.out.put6 (Nat.le_refl w.heap.size) (.int .i64 2) (.bool false) (.int .i64 n) (.string { data := #[] }) (.slice none 0 0) (.slice none 0 0)
    have hrp := HR3.out.put6 hg.symm (.int .i64 2) (.bool false) (.int .i64 n) (.string { data := #[] }) (.slice none 0 0) (.slice none 0 0)
    have HST := Lib.hid hst
    have HKP := Lib.hid hkp
    have HRP := Lib.hid hrp
    clear hst hkp hrp hz3
    go_wp2
    generalize hW : ((((((w3.setCell ⟨w.heap.size, 0, none⟩ (.int .i64 2)).setCell ⟨w.heap.size, 1, none⟩ (.bool false)).setCell ⟨w.heap.size, 2, none⟩ (.int .i64 n)).setCell ⟨w.heap.size, 3, none⟩ (.string { data := #[] })).setCell ⟨w.heap.size, 4, none⟩ (.slice none 0 0)).setCell ⟨w.heap.size, 5, none⟩ (.slice none 0 0)) = W at *
    have d0 := HST.out.cell 0
    have d1 := HST.out.cell 1
    have d2 := HST.out.cell 2
    have d3 := HST.out.cell 3
    have d4 := HST.out.cell 4
    have d5 := HST.out.cell 5
    simp only [List.getElem?_toArray, List.getElem?_cons_zero, List.getElem?_cons_succ] at d0 d1 d2 d3 d4 d5
    refine bodyPost_ret (v := .tuple #[.agg #[.int .i64 2, .bool false, .int .i64 n, .string { data := #[] }, .slice none 0 0, .slice none 0 0], .int .i64 0]) (by simp [results, Tryz.results46, go_sem, d0, d1, d2, d3, d4, d5]) rfl ?_
    exact vaE_leaf HE.out HKP.out HRP.out
set_option maxHeartbeats 2000000 in
theorem plain_true (b : Nat) (s : Nm) (o : Int) (w : World) (hG : Glob w) (_hb8 : 8 ≤ b) (h : RdAt w b s o) (_hs : s.length ≤ 1048576) (hc : comes (· == 34) s = false) (hd : comes (fun c => c == 45 || isFig c) s = false) (r : Nm) (t1 : takes trueL s = some r) : Calls Tryz.prog 46 #[.pointer (some ⟨b, 0, none⟩)] w (VaE w b o (plainL s)) := by
  have hpl : plainL s = .ok (.mk 1 true 0 [] [] []) r := by unfold plainL; rw [hc, hd]; simp only [Bool.false_eq_true, if_false]; rw [t1]
  have Hpl := Lib.hid hpl
  have HG := Lib.hid hG
  obtain ⟨res, hres⟩ : ∃ res, res = plainL s := ⟨_, rfl⟩
  rw [← hres] at Hpl ⊢
  have hbl := Blk.lt h
  have h1 := comes_any b s [34] o (w.alloc (.cells zeroV 34)) (h.ext (below_a1 _ _))
  rw [comes_one, hc] at h1
  have H1 := Lib.hid h1
  have hg : w.heap.size ≠ b := by omega
  have hz0 : Blk (w.alloc (.cells zeroV 34)) w.heap.size zeroV 34 := Blk.new rfl
  have HZ0 := Lib.hid hz0
  unfold zeroV at H1
  have h2 : Hid (∀ w, RdAt w b s o → Calls Tryz.prog 60 #[.pointer (some ⟨b, 0, none⟩), .string { data := #[45, 48, 49, 50, 51, 52, 53, 54, 55, 56, 57] }] w (ScE w b o (.bool false) s)) := Lib.hid fun w hw => by
    have := comes_any b s [45, 48, 49, 50, 51, 52, 53, 54, 55, 56, 57] o w hw
    rw [comes_num, hd] at this; exact this
  have T1 := Lib.hid t1
  have hE := Hpl.out
  have HE := Lib.hid hE
  clear hpl hres h1 hc h hz0 hG hd t1 hE
  go_enter Tryz.func46, Tryz.ntmps46
  go_wp2_with fail
  refine H1.out.mono ?_
  rintro e w1 ⟨rfl, hk1, hr1⟩
  have HZ1 := Lib.hid (hk1.blk HZ0.out hg)
  have HK1 := Lib.hid hk1.since
  have HR1 := Lib.hid hr1
  clear hk1 hr1
  go_wp2_with fail
  refine (h2.out w1 HR1.out).mono ?_
  rintro e w2 ⟨rfl, hk, hr⟩
  have HZ2 := Lib.hid (hk.blk HZ1.out hg)
  have HK2 := Lib.hid (HK1.out.trans hk)
  have HR2 := Lib.hid hr
  clear hk hr
  go_wp2_with fail
  refine (takes_yes b s trueL r o w2 HR2.out T1.out).mono ?_
  rintro e w3 ⟨rfl, hk, hr⟩
  have HZ3 := Lib.hid (hk.blk HZ2.out hg)
  have HK3 := Lib.hid (HK2.out.trans hk)
  have HR3 := Lib.hid hr
  clear hk hr
  have hz3 := HZ3.out
  have c0 := hz3.cell 0
  have c1 := hz3.cell 1
  have c2 := hz3.cell 2
  have c3 := hz3.cell 3
  have c4 := hz3.cell 4
  have c5 := hz3.cell 5
  have f0 := hz3.free 0
  have f1 := hz3.free 1
  have f2 := hz3.free 2
  have f3 := hz3.free 3
  have f4 := hz3.free 4
  have f5 := hz3.free 5
  unfold zeroV at c0 c1 c2 c3 c4 c5
  simp only [List.getElem?_toArray, List.getElem?_cons_zero, List.getElem?_cons_succ] at c0 c1 c2 c3 c4 c5
  have hlt := hz3.lt
  unfold zeroV at hz3
  have hst := store6 (u0 := .int .i64 1) (u1 := .bool true) (u2 := .int .i64 0) (u3 := .string { data := #[] }) (u4 := .slice none 0 0) (u5 := .slice none 0 0) hz3
  have hkp := HK3.out.put6 (Nat.le_refl w.heap.size) (.int .i64 1) (.bool true) (.int .i64 0) (.string { data := #[] }) (.slice none 0 0) (.slice none 0 0)
  have hrp := HR3.out.put6 hg.symm (.int .i64 1) (.bool true) (.int .i64 0) (.string { data := #[] }) (.slice none 0 0) (.slice none 0 0)
  have HST := Lib.hid hst
  have HKP := Lib.hid hkp
  have HRP := Lib.hid hrp
  clear hst hkp hrp hz3
  go_wp2
  generalize hW : ((((((w3.setCell ⟨w.heap.size, 0, none⟩ (.int .i64 1)).setCell ⟨w.heap.size, 1, none⟩ (.bool true)).setCell ⟨w.heap.size, 2, none⟩ (.int .i64 0)).setCell ⟨w.heap.size, 3, none⟩ (.string { data := #[] })).setCell ⟨w.heap.size, 4, none⟩ (.slice none 0 0)).setCell ⟨w.heap.size, 5, none⟩ (.slice none 0 0)) = W at *
  have d0 := HST.out.cell 0
  have d1 := HST.out.cell 1
  have d2 := HST.out.cell 2
  have d3 := HST.out.cell 3
  have d4 := HST.out.cell 4
  have d5 := HST.out.cell 5
  simp only [List.getElem?_toArray, List.getElem?_cons_zero, List.getElem?_cons_succ] at d0 d1 d2 d3 d4 d5
  refine bodyPost_ret (v := .tuple #[.agg #[.int .i64 1, .bool true, .int .i64 0, .string { data := #[] }, .slice none 0 0, .slice none 0 0], .int .i64 0]) (by simp [results, Tryz.results46, go_sem, d0, d1, d2, d3, d4, d5]) rfl ?_
  exact vaE_leaf HE.out HKP.out HRP.out
set_option maxHeartbeats 2000000 in
theorem plain_false (b : Nat) (s : Nm) (o : Int) (w : World) (hG : Glob w) (_hb8 : 8 ≤ b) (h : RdAt w b s o) (_hs : s.length ≤ 1048576) (hc : comes (· == 34) s = false) (hd : comes (fun c => c == 45 || isFig c) s = false) (r : Nm) (t1 : takes trueL s = none) (t2 : takes falseL s = some r) : Calls Tryz.prog 46 #[.pointer (some ⟨b, 0, none⟩)] w (VaE w b o (plainL s)) := by
  have hpl : plainL s = .ok (.mk 1 false 0 [] [] []) r := by unfold plainL; rw [hc, hd]; simp only [Bool.false_eq_true, if_false]; rw [t1, t2]
  have Hpl := Lib.hid hpl
  have HG := Lib.hid hG
  obtain ⟨res, hres⟩ : ∃ res, res = plainL s := ⟨_, rfl⟩
  rw [← hres] at Hpl ⊢
  have hbl := Blk.lt h
  have h1 := comes_any b s [34] o (w.alloc (.cells zeroV 34)) (h.ext (below_a1 _ _))
  rw [comes_one, hc] at h1
  have H1 := Lib.hid h1
  have hg : w.heap.size ≠ b := by omega
  have hz0 : Blk (w.alloc (.cells zeroV 34)) w.heap.size zeroV 34 := Blk.new rfl
  have HZ0 := Lib.hid hz0
  unfold zeroV at H1
  have h2 : Hid (∀ w, RdAt w b s o → Calls Tryz.prog 60 #[.pointer (some ⟨b, 0, none⟩), .string { data := #[45, 48, 49, 50, 51, 52, 53, 54, 55, 56, 57] }] w (ScE w b o (.bool false) s)) := Lib.hid fun w hw => by
    have := comes_any b s [45, 48, 49, 50, 51, 52, 53, 54, 55, 56, 57] o w hw
    rw [comes_num, hd] at this; exact this
  have T1 := Lib.hid t1
  have T2 := Lib.hid t2
  have hE := Hpl.out
  have HE := Lib.hid hE
  clear hpl hres h1 hc h hz0 hG hd t1 t2 hE
  go_enter Tryz.func46, Tryz.ntmps46
  go_wp2_with fail
  refine H1.out.mono ?_
  rintro e w1 ⟨rfl, hk1, hr1⟩
  have HZ1 := Lib.hid (hk1.blk HZ0.out hg)
  have HK1 := Lib.hid hk1.since
  have HR1 := Lib.hid hr1
  clear hk1 hr1
  go_wp2_with fail
  refine (h2.out w1 HR1.out).mono ?_
  rintro e w2 ⟨rfl, hk, hr⟩
  have HZ2 := Lib.hid (hk.blk HZ1.out hg)
  have HK2 := Lib.hid (HK1.out.trans hk)
  have HR2 := Lib.hid hr
  clear hk hr
  go_wp2_with fail
  refine (takes_no b s trueL o w2 HR2.out T1.out).mono ?_
  rintro e w3 ⟨rfl, hk, hr⟩
  have HZ3 := Lib.hid (hk.blk HZ2.out hg)
  have HK3 := Lib.hid (HK2.out.trans hk)
  have HR3 := Lib.hid hr
  clear hk hr
  go_wp2_with fail
  refine (takes_yes b s falseL r o w3 HR3.out T2.out).mono ?_
  rintro e w4 ⟨rfl, hk, hr⟩
  have HZ4 := Lib.hid (hk.blk HZ3.out hg)
  have HK4 := Lib.hid (HK3.out.trans hk)
  have HR4 := Lib.hid hr
  clear hk hr
  have hz3 := HZ4.out
  have c0 := hz3.cell 0
  have c1 := hz3.cell 1
  have c2 := hz3.cell 2
  have c3 := hz3.cell 3
  have c4 := hz3.cell 4
  have c5 := hz3.cell 5
  have f0 := hz3.free 0
  have f1 := hz3.free 1
  have f2 := hz3.free 2
  have f3 := hz3.free 3
  have f4 := hz3.free 4
  have f5 := hz3.free 5
  unfold zeroV at c0 c1 c2 c3 c4 c5
  simp only [List.getElem?_toArray, List.getElem?_cons_zero, List.getElem?_cons_succ] at c0 c1 c2 c3 c4 c5
  have hlt := hz3.lt
  unfold zeroV at hz3
  have hst := store6 (u0 := .int .i64 1) (u1 := .bool false) (u2 := .int .i64 0) (u3 := .string { data := #[] }) (u4 := .slice none 0 0) (u5 := .slice none 0 0) hz3
  have hkp := HK4.out.put6 (Nat.le_refl w.heap.size) (.int .i64 1) (.bool false) (.int .i64 0) (.string { data := #[] }) (.slice none 0 0) (.slice none 0 0)
  have hrp := HR4.out.put6 hg.symm (.int .i64 1) (.bool false) (.int .i64 0) (.string { data := #[] }) (.slice none 0 0) (.slice none 0 0)
  have HST := Lib.hid hst
  have HKP := Lib.hid hkp
  have HRP := Lib.hid hrp
  clear hst hkp hrp hz3
  go_wp2
  generalize hW : ((((((w4.setCell ⟨w.heap.size, 0, none⟩ (.int .i64 1)).setCell ⟨w.heap.size, 1, none⟩ (.bool false)).setCell ⟨w.heap.size, 2, none⟩ (.int .i64 0)).setCell ⟨w.heap.size, 3, none⟩ (.string { data := #[] })).setCell ⟨w.heap.size, 4, none⟩ (.slice none 0 0)).setCell ⟨w.heap.size, 5, none⟩ (.slice none 0 0)) = W at *
  have d0 := HST.out.cell 0
  have d1 := HST.out.cell 1
  have d2 := HST.out.cell 2
  have d3 := HST.out.cell 3
  have d4 := HST.out.cell 4
  have d5 := HST.out.cell 5
  simp only [List.getElem?_toArray, List.getElem?_cons_zero, List.getElem?_cons_succ] at d0 d1 d2 d3 d4 d5
  refine bodyPost_ret (v := .tuple #[.agg #[.int .i64 1, .bool false, .int .i64 0, .string { data := #[] }, .slice none 0 0, .slice none 0 0], .int .i64 0]) (by simp [results, Tryz.results46, go_sem, d0, d1, d2, d3, d4, d5]) rfl ?_
  exact vaE_leaf HE.out HKP.out HRP.out
set_option maxHeartbeats 2000000 in
theorem plain_null (b : Nat) (s : Nm) (o : Int) (w : World) (hG : Glob w) (_hb8 : 8 ≤ b) (h : RdAt w b s o) (_hs : s.length ≤ 1048576) (hc : comes (· == 34) s = false) (hd : comes (fun c => c == 45 || isFig c) s = false) (r : Nm) (t1 : takes trueL s = none) (t2 : takes falseL s = none) (t3 : takes nullL s = some r) : Calls Tryz.prog 46 #[.pointer (some ⟨b, 0, none⟩)] w (VaE w b o (plainL s)) := by
  have hpl : plainL s = .ok (.mk 0 false 0 [] [] []) r := by unfold plainL; rw [hc, hd]; simp only [Bool.false_eq_true, if_false]; rw [t1, t2, t3]; rfl
  have Hpl := Lib.hid hpl
  have HG := Lib.hid hG
  obtain ⟨res, hres⟩ : ∃ res, res = plainL s := ⟨_, rfl⟩
  rw [← hres] at Hpl ⊢
  have hbl := Blk.lt h
  have h1 := comes_any b s [34] o (w.alloc (.cells zeroV 34)) (h.ext (below_a1 _ _))
  rw [comes_one, hc] at h1
  have H1 := Lib.hid h1
  have hg : w.heap.size ≠ b := by omega
  have hz0 : Blk (w.alloc (.cells zeroV 34)) w.heap.size zeroV 34 := Blk.new rfl
  have HZ0 := Lib.hid hz0
  unfold zeroV at H1
  have h2 : Hid (∀ w, RdAt w b s o → Calls Tryz.prog 60 #[.pointer (some ⟨b, 0, none⟩), .string { data := #[45, 48, 49, 50, 51, 52, 53, 54, 55, 56, 57] }] w (ScE w b o (.bool false) s)) := Lib.hid fun w hw => by
    have := comes_any b s [45, 48, 49, 50, 51, 52, 53, 54, 55, 56, 57] o w hw
    rw [comes_num, hd] at this; exact this
  have T1 := Lib.hid t1
  have T2 := Lib.hid t2
  have T3 := Lib.hid t3
  have hE := Hpl.out
  have HE := Lib.hid hE
  clear hpl hres h1 hc h hz0 hG hd t1 t2 t3 hE
  go_enter Tryz.func46, Tryz.ntmps46
  go_wp2_with fail
  refine H1.out.mono ?_
  rintro e w1 ⟨rfl, hk1, hr1⟩
  have HZ1 := Lib.hid (hk1.blk HZ0.out hg)
  have HK1 := Lib.hid hk1.since
  have HR1 := Lib.hid hr1
  clear hk1 hr1
  go_wp2_with fail
  refine (h2.out w1 HR1.out).mono ?_
  rintro e w2 ⟨rfl, hk, hr⟩
  have HZ2 := Lib.hid (hk.blk HZ1.out hg)
  have HK2 := Lib.hid (HK1.out.trans hk)
  have HR2 := Lib.hid hr
  clear hk hr
  go_wp2_with fail
  refine (takes_no b s trueL o w2 HR2.out T1.out).mono ?_
  rintro e w3 ⟨rfl, hk, hr⟩
  have HZ3 := Lib.hid (hk.blk HZ2.out hg)
  have HK3 := Lib.hid (HK2.out.trans hk)
  have HR3 := Lib.hid hr
  clear hk hr
  go_wp2_with fail
  refine (takes_no b s falseL o w3 HR3.out T2.out).mono ?_
  rintro e w4 ⟨rfl, hk, hr⟩
  have HZ4 := Lib.hid (hk.blk HZ3.out hg)
  have HK4 := Lib.hid (HK3.out.trans hk)
  have HR4 := Lib.hid hr
  clear hk hr
  go_wp2_with fail
  refine (takes_yes b s nullL r o w4 HR4.out T3.out).mono ?_
  rintro e w5 ⟨rfl, hk, hr⟩
  have HZ5 := Lib.hid (hk.blk HZ4.out hg)
  have HK5 := Lib.hid (HK4.out.trans hk)
  have HR5 := Lib.hid hr
  clear hk hr
  go_wp2_with fail
  refine (made_yes _ _ _ _ _).mono ?_
  rintro e w9 ⟨_, rfl, hb3, rfl⟩
  have hz3 := HZ5.out.ext hb3
  have HK9 := Lib.hid (HK5.out.ext hb3)
  have HR9 := Lib.hid (HR5.out.ext hb3)
  clear hb3
  have c0 := hz3.cell 0
  have c1 := hz3.cell 1
  have c2 := hz3.cell 2
  have c3 := hz3.cell 3
  have c4 := hz3.cell 4
  have c5 := hz3.cell 5
  have f0 := hz3.free 0
  have f1 := hz3.free 1
  have f2 := hz3.free 2
  have f3 := hz3.free 3
  have f4 := hz3.free 4
  have f5 := hz3.free 5
  unfold zeroV at c0 c1 c2 c3 c4 c5
  simp only [List.getElem?_toArray, List.getElem?_cons_zero, List.getElem?_cons_succ] at c0 c1 c2 c3 c4 c5
  have hlt := hz3.lt
  unfold zeroV at hz3
  have hst := store6 (u0 := .int .i64 0) (u1 := .bool false) (u2 := .int .i64 0) (u3 := .string { data := #[] }) (u4 := .slice none 0 0) (u5 := .slice none 0 0) hz3
  have hkp := HK9.out.put6 (Nat.le_refl w.heap.size) (.int .i64 0) (.bool false) (.int .i64 0) (.string { data := #[] }) (.slice none 0 0) (.slice none 0 0)
  have hrp := HR9.out.put6 hg.symm (.int .i64 0) (.bool false) (.int .i64 0) (.string { data := #[] }) (.slice none 0 0) (.slice none 0 0)
  have HST := Lib.hid hst
  have HKP := Lib.hid hkp
  have HRP := Lib.hid hrp
  clear hst hkp hrp hz3
  go_wp2
  generalize hW : ((((((w9.setCell ⟨w.heap.size, 0, none⟩ (.int .i64 0)).setCell ⟨w.heap.size, 1, none⟩ (.bool false)).setCell ⟨w.heap.size, 2, none⟩ (.int .i64 0)).setCell ⟨w.heap.size, 3, none⟩ (.string { data := #[] })).setCell ⟨w.heap.size, 4, none⟩ (.slice none 0 0)).setCell ⟨w.heap.size, 5, none⟩ (.slice none 0 0)) = W at *
  have d0 := HST.out.cell 0
  have d1 := HST.out.cell 1
  have d2 := HST.out.cell 2
  have d3 := HST.out.cell 3
  have d4 := HST.out.cell 4
  have d5 := HST.out.cell 5
  simp only [List.getElem?_toArray, List.getElem?_cons_zero, List.getElem?_cons_succ] at d0 d1 d2 d3 d4 d5
  refine bodyPost_ret (v := .tuple #[.agg #[.int .i64 0, .bool false, .int .i64 0, .string { data := #[] }, .slice none 0 0, .slice none 0 0], .int .i64 0]) (by simp [results, Tryz.results46, go_sem, d0, d1, d2, d3, d4, d5]) rfl ?_
  exact vaE_leaf HE.out HKP.out HRP.out
set_option maxHeartbeats 2000000 in
theorem plain_none (b : Nat) (s : Nm) (o : Int) (w : World) (hG : Glob w) (_hb8 : 8 ≤ b) (h : RdAt w b s o) (_hs : s.length ≤ 1048576) (hc : comes (· == 34) s = false) (hd : comes (fun c => c == 45 || isFig c) s = false) (t1 : takes trueL s = none) (t2 : takes falseL s = none) (t3 : takes nullL s = none) : Calls Tryz.prog 46 #[.pointer (some ⟨b, 0, none⟩)] w (VaE w b o (plainL s)) := by
  have hpl : plainL s = .err 21 := by unfold plainL; rw [hc, hd]; simp only [Bool.false_eq_true, if_false]; rw [t1, t2, t3]
  have Hpl := Lib.hid hpl
  have HG := Lib.hid hG
  obtain ⟨res, hres⟩ : ∃ res, res = plainL s := ⟨_, rfl⟩
  rw [← hres] at Hpl ⊢
  have hbl := Blk.lt h
  have h1 := comes_any b s [34] o (w.alloc (.cells zeroV 34)) (h.ext (below_a1 _ _))
  rw [comes_one, hc] at h1
  have H1 := Lib.hid h1
  have hg : w.heap.size ≠ b := by omega
  have hz0 : Blk (w.alloc (.cells zeroV 34)) w.heap.size zeroV 34 := Blk.new rfl
  have HZ0 := Lib.hid hz0
  unfold zeroV at H1
  have h2 : Hid (∀ w, RdAt w b s o → Calls Tryz.prog 60 #[.pointer (some ⟨b, 0, none⟩), .string { data := #[45, 48, 49, 50, 51, 52, 53, 54, 55, 56, 57] }] w (ScE w b o (.bool false) s)) := Lib.hid fun w hw => by
    have := comes_any b s [45, 48, 49, 50, 51, 52, 53, 54, 55, 56, 57] o w hw
    rw [comes_num, hd] at this; exact this
  have T1 := Lib.hid t1
  have T2 := Lib.hid t2
  have T3 := Lib.hid t3
  have hE := Hpl.out
  have HE := Lib.hid hE
  clear hpl hres h1 hc h hz0 hG hd t1 t2 t3 hE
  go_enter Tryz.func46, Tryz.ntmps46
  go_wp2_with fail
  refine H1.out.mono ?_
  rintro e w1 ⟨rfl, hk1, hr1⟩
  have HZ1 := Lib.hid (hk1.blk HZ0.out hg)
  have HK1 := Lib.hid hk1.since
  have HR1 := Lib.hid hr1
  clear hk1 hr1
  go_wp2_with fail
  refine (h2.out w1 HR1.out).mono ?_
  rintro e w2 ⟨rfl, hk, hr⟩
  have HZ2 := Lib.hid (hk.blk HZ1.out hg)
  have HK2 := Lib.hid (HK1.out.trans hk)
  have HR2 := Lib.hid hr
  clear hk hr
  go_wp2_with fail
  refine (takes_no b s trueL o w2 HR2.out T1.out).mono ?_
  rintro e w3 ⟨rfl, hk, hr⟩
  have HZ3 := Lib.hid (hk.blk HZ2.out hg)
  have HK3 := Lib.hid (HK2.out.trans hk)
  have HR3 := Lib.hid hr
  clear hk hr
  go_wp2_with fail
  refine (takes_no b s falseL o w3 HR3.out T2.out).mono ?_
  rintro e w4 ⟨rfl, hk, hr⟩
  have HZ4 := Lib.hid (hk.blk HZ3.out hg)
  have HK4 := Lib.hid (HK3.out.trans hk)
  have HR4 := Lib.hid hr
  clear hk hr
  go_wp2_with fail
  refine (takes_no b s nullL o w4 HR4.out T3.out).mono ?_
  rintro e w5 ⟨rfl, hk, hr⟩
  have HZ5 := Lib.hid (hk.blk HZ4.out hg)
  have HK5 := Lib.hid (HK4.out.trans hk)
  have HR5 := Lib.hid hr
  clear hk hr
  go_wp2_with fail
  refine (made_no _ _ _ _ _ _ _).mono ?_
  rintro e w9 ⟨_, rfl, hb3, rfl⟩
  have hz3 := HZ5.out.ext hb3
  have HK9 := Lib.hid (HK5.out.ext hb3)
  have HR9 := Lib.hid (HR5.out.ext hb3)
  clear hb3
  have c0 := hz3.cell 0
  have c1 := hz3.cell 1
  have c2 := hz3.cell 2
  have c3 := hz3.cell 3
  have c4 := hz3.cell 4
  have c5 := hz3.cell 5
  have f0 := hz3.free 0
  have f1 := hz3.free 1
  have f2 := hz3.free 2
  have f3 := hz3.free 3
  have f4 := hz3.free 4
  have f5 := hz3.free 5
  unfold zeroV at c0 c1 c2 c3 c4 c5
  simp only [List.getElem?_toArray, List.getElem?_cons_zero, List.getElem?_cons_succ] at c0 c1 c2 c3 c4 c5
  have hlt := hz3.lt
  unfold zeroV at hz3
  have hst := store6 (u0 := .int .i64 0) (u1 := .bool false) (u2 := .int .i64 0) (u3 := .string { data := #[] }) (u4 := .slice none 0 0) (u5 := .slice none 0 0) hz3
  have hkp := HK9.out.put6 (Nat.le_refl w.heap.size) (.int .i64 0) (.bool false) (.int .i64 0) (.string { data := #[] }) (.slice none 0 0) (.slice none 0 0)
  have hrp := HR9.out.put6 hg.symm (.int .i64 0) (.bool false) (.int .i64 0) (.string { data := #[] }) (.slice none 0 0) (.slice none 0 0)
  have HST := Lib.hid hst
  have HKP := Lib.hid hkp
  have HRP := Lib.hid hrp
  clear hst hkp hrp hz3
  go_wp2
  generalize hW : ((((((w9.setCell ⟨w.heap.size, 0, none⟩ (.int .i64 0)).setCell ⟨w.heap.size, 1, none⟩ (.bool false)).setCell ⟨w.heap.size, 2, none⟩ (.int .i64 0)).setCell ⟨w.heap.size, 3, none⟩ (.string { data := #[] })).setCell ⟨w.heap.size, 4, none⟩ (.slice none 0 0)).setCell ⟨w.heap.size, 5, none⟩ (.slice none 0 0)) = W at *
  have d0 := HST.out.cell 0
  have d1 := HST.out.cell 1
  have d2 := HST.out.cell 2
  have d3 := HST.out.cell 3
  have d4 := HST.out.cell 4
  have d5 := HST.out.cell 5
  simp only [List.getElem?_toArray, List.getElem?_cons_zero, List.getElem?_cons_succ] at d0 d1 d2 d3 d4 d5
  refine bodyPost_ret (v := .tuple #[.agg #[.int .i64 0, .bool false, .int .i64 0, .string { data := #[] }, .slice none 0 0, .slice none 0 0], .int .i64 21]) (by simp [results, Tryz.results46, go_sem, d0, d1, d2, d3, d4, d5]) rfl ?_
  exact vaE_err HE.out HKP.out HRP.out
theorem plain_any (b : Nat) (s : Nm) (o : Int) (w : World) (hG : Glob w) (hb8 : 8 ≤ b) (h : RdAt w b s o) (hs : s.length ≤ 1048576) : Calls Tryz.prog 46 #[.pointer (some ⟨b, 0, none⟩)] w (VaE w b o (plainL s)) := by
  cases hc : comes (· == 34) s with
  | true => exact plain_text b s o w hG hb8 h hs hc
  | false =>
    cases hd : comes (fun c => c == 45 || isFig c) s with
    | true => exact plain_num b s o w hG hb8 h hs hc hd
    | false =>
      cases t1 : takes trueL s with
      | some r => exact plain_true b s o w hG hb8 h hs hc hd r t1
      | none =>
        cases t2 : takes falseL s with
        | some r => exact plain_false b s o w hG hb8 h hs hc hd r t1 t2
        | none =>
          cases t3 : takes nullL s with
          | some r => exact plain_null b s o w hG hb8 h hs hc hd r t1 t2 t3
          | none => exact plain_none b s o w hG hb8 h hs hc hd t1 t2 t3
end Go.Proofs.YtahiopjplfnlmaaGreatDoor
