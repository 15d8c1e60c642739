/- The scanner: skip, takes, comes; walked. -/
import Derived.Test.YtahiopjplfnlmaaGreatDoorBld
import Derived.Test.YtahiopjplfnlmaaGreatDoorValid
import Derived.Shelf.Strings.SlTrimAscii
import Derived.WalkSmall
import Derived.Lib.AppendIntMem
namespace Go.Proofs.YtahiopjplfnlmaaGreatDoor
open Go Go.RowKit

/-- the package-level variables that the code reads: the two errors are some errors, the tables are Go's -/
structure Glob (w : World) : Prop where
  syn : ∃ tp p, w.var? Tryz.prog "strconv.ErrSyntax" = some #[.iface tp p]
  rng : ∃ tp p, w.var? Tryz.prog "strconv.ErrRange" = some #[.iface tp p]
  tab : Lib.TabIs Tryz.prog w "internal/strconv.uint64pow10" .u64 Lib.pow10Tab
  utf : Lib.Utf8Tabs 0 1 w
  size : 8 ≤ w.heap.size
theorem Tryz.gSyn : Tryz.prog.globalNamed "strconv.ErrSyntax" = some 4 := by kernel_rfl
theorem Tryz.gRng : Tryz.prog.globalNamed "strconv.ErrRange" = some 5 := by kernel_rfl
theorem Tryz.gTab : Tryz.prog.globalNamed "internal/strconv.uint64pow10" = some 2 := by kernel_rfl
theorem utf_below {B : Nat} {w w' : World} (h : Lib.Utf8Tabs 0 1 w) (hb : Below B w w') (hB : 8 ≤ B) : Lib.Utf8Tabs 0 1 w' :=
  ⟨fun c hc => by rw [hb.cell (p := ⟨0, c, none⟩) (by show 0 < B; omega)]; exact h.1 c hc, fun i hi => by
    rw [hb.cell (p := ⟨1, 2 * i, none⟩) (by show 1 < B; omega), hb.cell (p := ⟨1, 2 * i + 1, none⟩) (by show 1 < B; omega)]; exact h.2 i hi⟩
theorem Glob.below {B : Nat} {w w' : World} (h : Glob w) (hb : Below B w w') (hB : 8 ≤ B) : Glob w' := by
  obtain ⟨t1, p1, h1⟩ := h.syn
  obtain ⟨t2, p2, h2⟩ := h.rng
  exact ⟨⟨t1, p1, var?_below hb Tryz.gSyn (by omega) h1⟩, ⟨t2, p2, var?_below hb Tryz.gRng (by omega) h2⟩, var?_below hb Tryz.gTab (by omega) h.tab, utf_below h.utf hb hB, Nat.le_trans h.size hb.size⟩
theorem Glob.ext {w w' : World} (h : Glob w) (hb : Below w.heap.size w w') : Glob w' := h.below hb h.size

/-- all but block b is as it was -/
def Keep (b : Nat) (w w' : World) : Prop := Below 0 w w' ∧ But w.heap.size b w w'
theorem Keep.below {b B : Nat} {a w w' : World} (h : Keep b w w') (k : Below B a w) (hb : B ≤ b) (hB : B ≤ w.heap.size) : Below B a w' :=
  ⟨h.1.os.trans k.os, h.1.tape.trans k.tape, h.1.output.trans k.output, Nat.le_trans k.size h.1.size, fun j hj => (h.2 j (by omega) (by omega)).trans (k.block j hj)⟩
theorem Keep.refl (b : Nat) (w : World) : Keep b w w := ⟨Below.refl _ _, But.refl _ _ _⟩
theorem Keep.size {b : Nat} {w w' : World} (h : Keep b w w') : w.heap.size ≤ w'.heap.size := h.1.size
theorem Keep.ext {b : Nat} {w w1 w' : World} (h : Keep b w w1) (k : Below w1.heap.size w1 w') : Keep b w w' :=
  ⟨h.1.trans (k.mono (Nat.zero_le _)), h.2.trans (But.of (k.mono h.1.size))⟩
theorem Keep.trans {b : Nat} {w w1 w' : World} (h : Keep b w w1) (k : Keep b w1 w') : Keep b w w' :=
  ⟨h.1.trans k.1, fun j hj hne => (k.2 j (Nat.lt_of_lt_of_le hj h.1.size) hne).trans (h.2 j hj hne)⟩
theorem Keep.set {b : Nat} {w w1 : World} (h : Keep b w w1) (j : Nat) (u : Value) : Keep b w (w1.setCell ⟨b, j, none⟩ u) :=
  ⟨h.1.setCell (Nat.zero_le _) _, h.2.trans (But.set _ _)⟩
theorem Keep.block {b : Nat} {w w' : World} (h : Keep b w w') {k : Nat} (hk : k < w.heap.size) (hb : k ≠ b) : w'.heap[k]? = w.heap[k]? := h.2 k hk hb
theorem Keep.own {b : Nat} {w w' : World} (h : Keep b w w') {base : Nat} {e : TypeId} {sz : Nat} {a : Option Addr} {n cap : Nat} {xs : List Value} (o : Own w base e sz a n cap xs) (hb : blockOf a ≠ some b) : Own w' base e sz a n cap xs :=
  o.congr fun g hg hlt => h.2 g hlt (fun he => hb (by rw [hg, he]))
theorem Keep.grown {b : Nat} {w w1 w' : World} (h : Keep b w w1) {row : Option Nat} (hg : w1.grownBy w' row) (hr : ∀ k, row = some k → w.heap.size ≤ k) : Keep b w w' :=
  ⟨h.1.grown hg (Nat.zero_le _) (fun _ _ => Nat.zero_le _), h.2.trans (But.grown hg h.size hr)⟩
theorem Keep.alloc {b : Nat} {w w1 : World} (h : Keep b w w1) (o : Obj) : Keep b w (w1.alloc o) := h.ext (below_a1 _ _)
theorem Keep.drew {b : Nat} {w w1 : World} (h : Keep b w w1) (n : Nat) : Keep b w (w1.drewN n) := h.ext (below_drew (Below.refl _ _) n)
theorem Keep.glob {b : Nat} {w w' : World} (h : Keep b w w') (g : Glob w) (hb : 8 ≤ b) : Glob w' := g.below (h.below (Below.refl 8 w) hb g.size) (Nat.le_refl _)

/-- a reader that lies at b: what is left, how many brackets are open -/
def RdAt (w : World) (b : Nat) (s : Nm) (o : Int) : Prop := Blk w b #[strV s, .int .i64 o] 62
theorem RdAt.ext {w w' : World} {b : Nat} {s : Nm} {o : Int} (h : RdAt w b s o) (k : Below w.heap.size w w') : RdAt w' b s o := Blk.ext h k
theorem RdAt.c0 {w : World} {b : Nat} {s : Nm} {o : Int} (h : RdAt w b s o) : w.cell? ⟨b, 0, none⟩ = some (.string ⟨s.toArray⟩) := Blk.cell h 0
theorem RdAt.c1 {w : World} {b : Nat} {s : Nm} {o : Int} (h : RdAt w b s o) : w.cell? ⟨b, 1, none⟩ = some (.int .i64 o) := Blk.cell h 1
theorem RdAt.put {w : World} {b : Nat} {s : Nm} {o : Int} (h : RdAt w b s o) (t : Nm) : RdAt (w.setCell ⟨b, 0, none⟩ (.string ⟨t.toArray⟩)) b t o := Blk.set h 0 _
theorem data_nm (s : Nm) : (⟨s.toArray⟩ : ByteArray).data.toList = s := by simp
theorem size_nm (s : Nm) : (⟨s.toArray⟩ : ByteArray).size = s.length := by simp [ByteArray.size]

/-- a scanner's method's end: a value, all but the reader as it was, and it holds t -/
def ScE (w : World) (b : Nat) (o : Int) (v : Value) (t : Nm) (e : Ending) (w' : World) : Prop := e = .returned v ∧ Keep b w w' ∧ RdAt w' b t o

theorem trim_any (s c : Nm) (w : World) (hl : c.length ≤ 100) (hc : ∀ x ∈ c, x.toNat < 128) : Calls Tryz.prog 56 #[.string ⟨s.toArray⟩, .string ⟨c.toArray⟩] w (Ret w (fun v _ => v = strV (s.dropWhile fun x => c.contains x))) := by
  refine (Any.strings_TrimLeft_laid Tryz.lays161 (by kernel_rfl) ⟨s.toArray⟩ ⟨c.toArray⟩ w (by rw [size_nm]; omega) ?_).mono ?_
  · intro j b hb
    rw [data_nm] at hb
    exact hc b (List.mem_of_getElem? hb)
  · rintro e w' ⟨rfl, hb⟩
    refine ⟨_, rfl, hb, ?_⟩
    rw [data_nm, data_nm]; rfl
theorem blanks_eq (s : Nm) : (s.dropWhile fun x => ([32, 9, 10, 13] : Nm).contains x) = skip s := by
  unfold skip
  congr 1
  funext c
  unfold isBlank
  rw [Bool.eq_iff_iff]
  simp [or_assoc]

theorem skip_any (b : Nat) (s : Nm) (o : Int) (w : World) (h : RdAt w b s o) : Calls Tryz.prog 43 #[.pointer (some ⟨b, 0, none⟩)] w (ScE w b o (.tuple #[]) (skip s)) := by
  have c0 := h.c0
  have H := Lib.hid h
  have ht : Hid (∀ w : World, Calls Tryz.prog 56 #[.string ⟨s.toArray⟩, .string { data := #[32, 9, 10, 13] }] w (Ret w (fun v _ => v = strV (skip s)))) := Lib.hid fun w => by
    have := trim_any s [32, 9, 10, 13] w (by decide) (by decide)
    rw [blanks_eq] at this; exact this
  clear h
  go_enter Tryz.func43, Tryz.ntmps43
  go_wp2_with fail
  refine (ht.out _).mono ?_
  rintro e w1 ⟨_, rfl, hb1, rfl⟩
  have h1 := H.out.ext hb1
  have c1 := h1.c0
  have f1 := Blk.free h1 0
  have H1 := Lib.hid h1
  have Hb := Lib.hid hb1
  unfold strV
  clear h1 hb1 ht
  go_wp2
  refine bodyPost_ret (results_none rfl _ _ _) rfl ?_
  exact ⟨rfl, ((Keep.refl b w).ext Hb.out).set 0 _, H1.out.put _⟩

theorem hasPrefix_iff (p s : Nm) : Lib.hasPrefix s p = (takes p s).isSome := by
  unfold Lib.hasPrefix
  induction p generalizing s with
  | nil => simp [takes_nil]
  | cons a p ih =>
    cases s with
    | nil => simp [takes_empty]
    | cons c s =>
      rw [takes_cons, List.isPrefixOf, ih s]
      by_cases h : c = a
      · simp [h]
      · have h2 : ¬ a = c := fun e => h e.symm
        simp [h, h2]
theorem cut_some {p s r : Nm} (h : takes p s = some r) : Lib.hasPrefix s p = true ∧ Lib.trimPrefix s p = r := by
  have h1 : Lib.hasPrefix s p = true := by rw [hasPrefix_iff, h]; rfl
  refine ⟨h1, ?_⟩
  unfold Lib.trimPrefix
  rw [if_pos h1]
  rw [takes_some h, List.drop_left' rfl]
theorem cut_none {p s : Nm} (h : takes p s = none) : Lib.hasPrefix s p = false ∧ Lib.trimPrefix s p = s := by
  have h1 : Lib.hasPrefix s p = false := by rw [hasPrefix_iff, h]; rfl
  refine ⟨h1, ?_⟩
  unfold Lib.trimPrefix
  rw [if_neg (by rw [h1]; decide)]

theorem takes_yes (b : Nat) (s p r : Nm) (o : Int) (w : World) (h : RdAt w b s o) (ht : takes p s = some r) : Calls Tryz.prog 44 #[.pointer (some ⟨b, 0, none⟩), .string ⟨p.toArray⟩] w (ScE w b o (.bool true) r) := by
  have c0 := h.c0
  have f0 := Blk.free h 0
  have H := Lib.hid h
  have hc : Hid (∀ w : World, Calls Tryz.prog 57 #[.string ⟨s.toArray⟩, .string ⟨p.toArray⟩] w fun e w' => e = .returned (.tuple #[.string ⟨r.toArray⟩, .bool true]) ∧ w' = w) := Lib.hid fun w => by
    have h1 := Tryz.strings_CutPrefix ⟨s.toArray⟩ ⟨p.toArray⟩ w
    rw [data_nm, data_nm, (cut_some ht).1, (cut_some ht).2] at h1
    exact h1
  clear h ht
  go_enter Tryz.func44, Tryz.ntmps44
  go_wp2_with fail
  refine (hc.out _).mono ?_
  rintro e w1 ⟨rfl, rfl⟩
  go_wp2
  go_ret
  exact ⟨rfl, (Keep.refl b _).set 0 _, H.out.put _⟩
theorem takes_no (b : Nat) (s p : Nm) (o : Int) (w : World) (h : RdAt w b s o) (ht : takes p s = none) : Calls Tryz.prog 44 #[.pointer (some ⟨b, 0, none⟩), .string ⟨p.toArray⟩] w (ScE w b o (.bool false) s) := by
  have c0 := h.c0
  have f0 := Blk.free h 0
  have H := Lib.hid h
  have hc : Hid (∀ w : World, Calls Tryz.prog 57 #[.string ⟨s.toArray⟩, .string ⟨p.toArray⟩] w fun e w' => e = .returned (.tuple #[.string ⟨s.toArray⟩, .bool false]) ∧ w' = w) := Lib.hid fun w => by
    have h1 := Tryz.strings_CutPrefix ⟨s.toArray⟩ ⟨p.toArray⟩ w
    rw [data_nm, data_nm, (cut_none ht).1, (cut_none ht).2] at h1
    exact h1
  clear h ht
  go_enter Tryz.func44, Tryz.ntmps44
  go_wp2_with fail
  refine (hc.out _).mono ?_
  rintro e w1 ⟨rfl, rfl⟩
  go_wp2
  go_ret
  exact ⟨rfl, (Keep.refl b _).set 0 _, H.out.put _⟩

/-- a text with a first byte, behind a name -/
theorem open_cons (c : UInt8) (r : Nm) : ∃ (z : ByteArray) (h : 0 < z.size), z = ⟨(c :: r).toArray⟩ ∧ z.size = r.length + 1 ∧ z[0] = c ∧ z.extract 1 z.size = ⟨r.toArray⟩ ∧ z.toList.isEmpty = false ∧ (z.toList = []) = False := by
  have hs : (⟨(c :: r).toArray⟩ : ByteArray).size = r.length + 1 := by rw [size_nm]; rfl
  have hl : (⟨(c :: r).toArray⟩ : ByteArray).toList = c :: r := by rw [Lib.toList_data]
  refine ⟨⟨(c :: r).toArray⟩, by rw [hs]; omega, rfl, hs, rfl, ?_, by rw [hl]; rfl, by rw [hl]; simp⟩
  have := Lib.extract_to_end (⟨(c :: r).toArray⟩ : ByteArray) 1
  rw [data_nm] at this
  have e : ∀ a b : ByteArray, a.data.toList = b.data.toList → a = b := fun a b h => by
    cases a; cases b; simp at h; rw [h]
  exact e _ _ (by rw [this, data_nm]; rfl)
theorem indexByte_mem (l : Nm) (c : UInt8) : (0 ≤ Lib.indexByte l c) = (c ∈ l) := by
  induction l with
  | nil => simp [Lib.indexByte]
  | cons x l ih =>
    unfold Lib.indexByte
    by_cases h : x = c
    · simp [h]
    · have h2 : ¬ c = x := fun e => h e.symm
      have h3 : (x == c) = false := by simpa using h
      rw [h3]
      simp only [Bool.false_eq_true, if_false, List.mem_cons, h2, false_or]
      rw [← ih]
      have hge : -1 ≤ Lib.indexByte l c := by
        clear ih
        induction l with
        | nil => simp [Lib.indexByte]
        | cons y l ih2 =>
          unfold Lib.indexByte
          split
          · omega
          · split <;> omega
      by_cases h4 : Lib.indexByte l c = -1
      · simp [h4]
      · have h5 : (Lib.indexByte l c == -1) = false := by simpa using h4
        rw [h5]
        simp only [Bool.false_eq_true, if_false]
        apply propext; constructor <;> intro <;> omega

theorem comes_any (b : Nat) (s l : Nm) (o : Int) (w : World) (h : RdAt w b s o) : Calls Tryz.prog 60 #[.pointer (some ⟨b, 0, none⟩), .string ⟨l.toArray⟩] w (ScE w b o (.bool (comes (fun c => l.contains c) s)) s) := by
  have c0 := h.c0
  have H := Lib.hid h
  clear h
  cases s with
  | nil =>
    go_enter Tryz.func60, Tryz.ntmps60
    go_wp2
    go_ret
    exact ⟨rfl, Keep.refl b _, H.out⟩
  | cons c r =>
    obtain ⟨z, hz0, hz, hzs, hzc, hze, hzl, hzl2⟩ := open_cons c r
    rw [← hz] at c0
    have hzn : (0 : Int) < z.size := by omega
    have hcc : ((z[0].toNat : Nat) : Int) = (c.toNat : Int) := by rw [hzc]
    have hix : Hid (∀ w : World, Calls Tryz.prog 74 #[.string ⟨l.toArray⟩, .int .u8 c.toNat] w fun e w' => e = .returned (.int .i64 (Lib.indexByte l c)) ∧ w' = w) := Lib.hid fun w => by
      have h1 := Tryz.strings_IndexByte ⟨l.toArray⟩ c.toNat w
      rw [data_nm] at h1
      have e : (c.toNat : Int).toNat.toUInt8 = c := by simp
      rw [e] at h1
      exact h1
    have hm : decide (0 ≤ Lib.indexByte l c) = comes (fun c => l.contains c) (c :: r) := by
      rw [Bool.eq_iff_iff, decide_eq_true_eq, indexByte_mem]
      simp [comes]
    have Hm := Lib.hid hm
    clear hm hz hzs hzc hze
    go_enter Tryz.func60, Tryz.ntmps60
    go_wp2_with fail
    refine (hix.out _).mono ?_
    rintro e w1 ⟨rfl, rfl⟩
    go_wp2
    go_ret
    refine ⟨?_, Keep.refl b _, H.out⟩
    exact congrArg (fun x => Ending.returned (.bool x)) Hm.out
end Go.Proofs.YtahiopjplfnlmaaGreatDoor
