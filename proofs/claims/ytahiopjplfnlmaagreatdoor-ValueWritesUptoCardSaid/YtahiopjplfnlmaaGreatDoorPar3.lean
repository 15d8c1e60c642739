/- parts: its loop; walked. -/
import Derived.Test.YtahiopjplfnlmaaGreatDoorPar2
import Derived.Deep.RegionHeld3
namespace Go.Proofs.YtahiopjplfnlmaaGreatDoor
open Go Go.RowKit

theorem Blk.other6 {w : World} {k g : Nat} {cs : Array Value} {T : TypeId} {u0 u1 u2 u3 u4 u5 : Value} (h : Blk w k cs T) (hk : k ≠ g) :
    Blk ((((((w.setCell ⟨g, 0, none⟩ u0).setCell ⟨g, 1, none⟩ u1).setCell ⟨g, 2, none⟩ u2).setCell ⟨g, 3, none⟩ u3).setCell ⟨g, 4, none⟩ u4).setCell ⟨g, 5, none⟩ u5) k cs T :=
  ((((((h.other (p := ⟨g, 0, none⟩) hk u0).other (p := ⟨g, 1, none⟩) hk u1).other (p := ⟨g, 2, none⟩) hk u2).other (p := ⟨g, 3, none⟩) hk u3).other (p := ⟨g, 4, none⟩) hk u4).other (p := ⟨g, 5, none⟩) hk u5)
/-- what six cells of a value hold -/
def Six (w : World) (g : Nat) (d : VD) : Prop := w.cell? ⟨g, 0, none⟩ = some (.int .i64 d.sort) ∧ w.cell? ⟨g, 1, none⟩ = some (.bool d.on) ∧ w.cell? ⟨g, 2, none⟩ = some (.int .i64 d.n) ∧ w.cell? ⟨g, 3, none⟩ = some (.string ⟨d.text.toArray⟩) ∧ w.cell? ⟨g, 4, none⟩ = some (.slice d.a d.list.length d.c) ∧ w.cell? ⟨g, 5, none⟩ = some (.slice d.ka d.keys.length d.kc)
theorem Six.ext {w w' : World} {g : Nat} {d : VD} (h : Six w g d) (hb : Below w.heap.size w w') : Six w' g d :=
  ⟨below_ext hb h.1, below_ext hb h.2.1, below_ext hb h.2.2.1, below_ext hb h.2.2.2.1, below_ext hb h.2.2.2.2.1, below_ext hb h.2.2.2.2.2⟩
theorem Six.block {w w' : World} {g : Nat} {d : VD} (h : Six w g d) (hb : w'.heap[g]? = w.heap[g]?) : Six w' g d := by
  have k : ∀ j, w'.cell? ⟨g, j, none⟩ = w.cell? ⟨g, j, none⟩ := fun j => World.cell?_of_block (w := w) (a := ⟨g, j, none⟩) hb
  exact ⟨(k 0).trans h.1, (k 1).trans h.2.1, (k 2).trans h.2.2.1, (k 3).trans h.2.2.2.1, (k 4).trans h.2.2.2.2.1, (k 5).trans h.2.2.2.2.2⟩
theorem VD.val_eq' (d : VD) : d.val = .agg #[.int .i64 d.sort, .bool d.on, .int .i64 d.n, .string ⟨d.text.toArray⟩, .slice d.a d.list.length d.c, .slice d.ka d.keys.length d.kc] := by cases d; rfl
theorem own_new {w : World} {base : Nat} {e : TypeId} {sz : Nat} {a : Option Addr} {n cap : Nat} {xs : List Value} (h : Own w base e sz a n cap xs) {g : Nat} (hg : w.heap.size ≤ g) : some g ≠ rowOf a cap := by
  intro he
  unfold rowOf at he
  split at he
  · cases he
  · rename_i hc
    have := (h.size (Nat.pos_of_ne_zero hc) he.symm).2
    omega
/-- where no panic is let out -/
def NoPan (Q : Exit → Act → World → Prop) : Exit → Act → World → Prop
  | .panic _, _, _ => False
  | .normal, a, w => Q .normal a w
  | .ret, a, w => Q .ret a w
  | .exit n, a, w => Q (.exit n) a w
  | .goto t, a, w => Q (.goto t) a w
  | .outgrown, a, w => Q .outgrown a w
theorem wp_noPan {P : Program} {c : Code} {Q : Exit → Act → World → Prop} {a : Act} {w : World} (h : c.wp P (NoPan Q) a w) : c.wp P Q a w :=
  Code.wp_mono (fun e a w h => by cases e <;> first | exact h | exact h.elim) h
theorem grown_from {w7 W w8 : World} {a a' : Option Addr} {c c' : Nat} (h : Below w7.heap.size w7 W) (hg : W.grownBy w8 (rowOf a c)) (hbk : rowOf a' c' = rowOf a c ∨ rowOf a' c' = some W.heap.size) :
    (∀ j, j < w7.heap.size → some j ≠ rowOf a c → w8.heap[j]? = w7.heap[j]?) ∧ Below 0 w7 w8 ∧ (rowOf a' c' = rowOf a c ∨ ∃ j, rowOf a' c' = some j ∧ w7.heap.size ≤ j) := by
  refine ⟨fun j hj hne => (hg.block j (Nat.lt_of_lt_of_le hj h.size) hne).trans (h.block j hj), (h.mono (Nat.zero_le _)).grown hg (Nat.zero_le _) (fun _ _ => Nat.zero_le _), ?_⟩
  rcases hbk with hbk | hbk
  · exact .inl hbk
  · exact .inr ⟨_, hbk, h.size⟩
/-- the value is made: what parts hands back -/
theorem vaE_parts {w W : World} {b : Nat} {o sort : Int} {vs : List VD} {la : Option Addr} {lc : Nat} {ks : List Nm} {ka : Option Addr} {kc : Nat} {t : Nm} {res : Res} (hres : res = .ok (.mk sort false 0 [] (vs.map VD.v) ks) t) (hP : PV w W b sort vs la lc ks ka kc) (hb : b < w.heap.size) (hR : RdAt W b t (o + 1)) :
    VaE w b o res (.returned (.tuple #[.agg #[.int .i64 sort, .bool false, .int .i64 0, .string { data := #[] }, .slice la vs.length lc, .slice ka ks.length kc], .int .i64 0]))
      (((((((W.setCell ⟨w.heap.size + 1, 0, none⟩ (.int .i64 sort)).setCell ⟨w.heap.size + 1, 1, none⟩ (.bool false)).setCell ⟨w.heap.size + 1, 2, none⟩ (.int .i64 0)).setCell ⟨w.heap.size + 1, 3, none⟩ (.string { data := #[] })).setCell ⟨w.heap.size + 1, 4, none⟩ (.slice la vs.length lc)).setCell ⟨w.heap.size + 1, 5, none⟩ (.slice ka ks.length kc)).setCell ⟨b, 1, none⟩ (.int .i64 o)) := by
  rw [hres]
  have hother : ∀ j, w.heap.size + 3 ≤ j → (((((((W.setCell ⟨w.heap.size + 1, 0, none⟩ (.int .i64 sort)).setCell ⟨w.heap.size + 1, 1, none⟩ (.bool false)).setCell ⟨w.heap.size + 1, 2, none⟩ (.int .i64 0)).setCell ⟨w.heap.size + 1, 3, none⟩ (.string { data := #[] })).setCell ⟨w.heap.size + 1, 4, none⟩ (.slice la vs.length lc)).setCell ⟨w.heap.size + 1, 5, none⟩ (.slice ka ks.length kc)).setCell ⟨b, 1, none⟩ (.int .i64 o)).heap[j]? = W.heap[j]? := fun j hj => by
    have h1 : ∀ i, j ≠ (⟨w.heap.size + 1, i, none⟩ : Addr).block := fun i => by show j ≠ w.heap.size + 1; omega
    rw [Below.heap_setCell _ ⟨b, 1, none⟩ _ j (by show j ≠ b; omega), Below.heap_setCell _ _ _ j (h1 _), Below.heap_setCell _ _ _ j (h1 _), Below.heap_setCell _ _ _ j (h1 _), Below.heap_setCell _ _ _ j (h1 _), Below.heap_setCell _ _ _ j (h1 _), Below.heap_setCell _ _ _ j (h1 _)]
  refine ⟨.mk sort false 0 [] la lc vs ka kc ks, rfl, by rw [VD.v, vsOf_map], ?_, (hP.keep.put6 (by omega) _ _ _ _ _ _).open _, (hR.put6 (by omega) _ _ _ _ _ _).open _⟩
  refine .mk ?_ ?_ (fun g _ hg => by have := hP.own.base hg; omega) (fun g _ hg => by have := hP.kown.base hg; omega) (fun x hx => ?_)
  · exact hP.own.row.congr fun g _ hg _ => hother g (hP.own.base hg)
  · exact hP.kown.row.congr fun g _ hg _ => hother g (hP.kown.base hg)
  · exact ((hP.at' x hx).congr fun g hg _ => hother g hg.1).mono fun g hg _ => by omega
theorem plainL_err {s : Nm} {k : Int} (h : plainL s = .err k) : k = 21 := by
  unfold plainL at h
  split at h
  · split at h
    · injection h with h; exact h.symm
    · cases h
  · split at h
    · split at h
      · injection h with h; exact h.symm
      · cases h
    · split at h
      · cases h
      · split at h
        · cases h
        · split at h
          · cases h
          · injection h with h; exact h.symm
theorem read_err : ∀ f : Nat, (∀ o s k, valL f o s = .err k → k = 21 ∨ k = 22) ∧ (∀ o sort e s k, partsL f o sort e s = .err k → k = 21 ∨ k = 22) ∧
    (∀ o sort e s vs ks k, loopL f o sort e s vs ks = .err k → k = 21 ∨ k = 22) ∧ (∀ o sort e s vs ks k, elemL f o sort e s vs ks = .err k → k = 21 ∨ k = 22)
  | 0 => ⟨fun _ _ _ h => by simp [valL] at h, fun _ _ _ _ _ h => by simp [partsL] at h, fun _ _ _ _ _ _ _ h => by simp [loopL] at h, fun _ _ _ _ _ _ _ h => by simp [elemL] at h⟩
  | f + 1 => by
    obtain ⟨h1, h2, h3, h4⟩ := read_err f
    refine ⟨fun o s k h => ?_, fun o sort e s k h => ?_, fun o sort e s vs ks k h => ?_, fun o sort e s vs ks k h => ?_⟩
    · rw [valL_fin] at h
      unfold headL at h
      cases ha : takes [123] (skip s) with
      | some r =>
        rw [ha] at h
        simp only at h
        cases hb : partsL f o 5 125 r with
        | out => rw [hb] at h; cases h
        | err j => rw [hb] at h; injection h with h; rw [← h]; exact h2 _ _ _ _ _ hb
        | ok v t => rw [hb] at h; cases h
      | none =>
        rw [ha] at h
        simp only at h
        cases hc : takes [91] (skip s) with
        | some r =>
          rw [hc] at h
          simp only at h
          cases hb : partsL f o 4 93 r with
          | out => rw [hb] at h; cases h
          | err j => rw [hb] at h; injection h with h; rw [← h]; exact h2 _ _ _ _ _ hb
          | ok v t => rw [hb] at h; cases h
        | none =>
          rw [hc] at h
          simp only at h
          cases hb : plainL (skip s) with
          | out => rw [hb] at h; cases h
          | err j => rw [hb] at h; injection h with h; rw [← h]; exact .inl (plainL_err hb)
          | ok v t => rw [hb] at h; cases h
    · rw [partsL_step] at h
      split at h
      · injection h with h; exact .inr h.symm
      · split at h
        · cases h
        · exact h3 _ _ _ _ _ _ _ h
    · rw [loopL_step] at h
      split at h
      · split at h
        · injection h with h; exact .inl h.symm
        · exact h4 _ _ _ _ _ _ _ h
      · exact h4 _ _ _ _ _ _ _ h
    · rw [elemL_step] at h
      cases hb : valL f o s with
      | out => rw [hb] at h; cases h
      | err j => rw [hb] at h; injection h with h; rw [← h]; exact h1 _ _ _ hb
      | ok x r =>
        rw [hb] at h
        simp only at h
        split at h
        · cases h
        · split at h
          · exact h3 _ _ _ _ _ _ _ h
          · injection h with h; exact .inl h.symm
theorem below0_of {w w' : World} {B : Nat} (h : Below B w w') : Below 0 w w' := h.mono (Nat.zero_le _)

set_option maxHeartbeats 8000000 in
theorem parts_loop (f : Nat) (HV : Hid (∀ g, g ≤ f → ∀ (b : Nat) (s : Nm) (o : Nat) (w : World), Glob w → 8 ≤ b → RdAt w b s o → s.length ≤ 1048576 → o ≤ 20 → valL g o s ≠ .out → Calls Tryz.prog 30 #[.pointer (some ⟨b, 0, none⟩)] w (VaE w b o (valL g o s))))
    (b : Nat) (s : Nm) (o : Nat) (sort : Int) (e : UInt8) (w : World) (hG : Glob w) (hb8 : 8 ≤ b) (h : RdAt w b s o) (hs : s.length ≤ 1048576) (ho : o < 20) (ht : takes [e] (skip s) = none) (res : Res) (hres : res = loopL f (o + 1) sort e (skip s) [] []) (hne : res ≠ .out) :
    Calls Tryz.prog 45 #[.pointer (some ⟨b, 0, none⟩), .int .i64 sort, .string ⟨([e] : Nm).toArray⟩] w (VaE w b o res) := by
  have hmf : ∀ (fn : Fn) (first cap : Array Value) (w : World), (Instr.makeFunc fn first cap).run Tryz.prog w = .ok (.func fn first cap) w := fun _ _ _ _ => rfl
  have hbl := Blk.lt h
  have hoi : (o : Int) < 20 := by omega
  have hoj : (0 : Int) ≤ (o : Int) := by omega
  have h3 := h.ext (box3_below w b sort)
  have c1 := h3.c1
  have f1 := Blk.free h3 1
  obtain ⟨W4, hW4⟩ : ∃ W4, W4 = (box3 w b sort).setCell ⟨b, 1, none⟩ (.int .i64 ((o : Int) + 1)) := ⟨_, rfl⟩
  have hp : PV w W4 b sort [] none 0 [] none 0 := by rw [hW4]; exact (box3_pv w b sort).turn hbl ((Keep.refl b _).open _)
  have h4 : RdAt W4 b s ((o : Int) + 1) := by rw [hW4]; exact h3.open _
  unfold box3 at c1 f1 hW4
  have HP := Lib.hid hp
  have H4 := Lib.hid h4
  have HG := Lib.hid hG
  have HT := Lib.hid ht
  have Hres := Lib.hid hres
  have Hne := Lib.hid hne
  have hsl := skip_len s
  clear h hres h3 hp h4 ht hG hne
  go_enter_defers Tryz.func45, Tryz.ntmps45
  refine wp_noPan ?_
  go_upto_region 3 with (fail)
  rw [← hW4]
  clear hW4 c1 f1
  have c1 := H4.out.c1
  have b0 := HP.out.box.cell 0
  simp only [List.getElem?_toArray, List.getElem?_cons_zero] at b0
  go_wp2_with fail
  refine (skip_any b s _ W4 H4.out).mono ?_
  rintro e' w5 ⟨rfl, hk5, hr5⟩
  have hp5 := HP.out.turn hbl hk5
  have HP5 := Lib.hid hp5
  have HR5 := Lib.hid hr5
  clear hk5 hr5 b0 c1 hp5
  have b0 := HP5.out.box.cell 0
  simp only [List.getElem?_toArray, List.getElem?_cons_zero] at b0
  go_wp2_with fail
  refine (takes_no b (skip s) [e] _ w5 HR5.out HT.out).mono ?_
  rintro e' w6 ⟨rfl, hk6, hr6⟩
  have HP6 := Lib.hid (HP5.out.turn hbl hk6)
  have HR6 := Lib.hid hr6
  clear hk6 hr6 b0 HP5 HR5 HP H4 HT
  go_wp2_with fail
  go_loopw [7, 9, 10, 11] (fun _ _ _ _ wr => ∃ (g : Nat) (t : Nm) (vs : List VD) (la : Option Addr) (lc : Nat) (ks : List Nm) (ka : Option Addr) (kc : Nat), Hid (g ≤ f ∧ res = loopL g (o + 1) sort e t (vs.map VD.v) ks) ∧ Hid (PV w wr b sort vs la lc ks ka kc) ∧ Hid (RdAt wr b t ((o : Int) + 1)) ∧ vs.length + t.length ≤ 1048576 ∧ ks.length + t.length ≤ 1048576) (fun _ _ _ _ wr => leftAt wr b)
  case atStart => exact ⟨f, skip s, [], none, 0, [], none, 0, Lib.hid ⟨Nat.le_refl _, Hres.out⟩, HP6, HR6, by simp; omega, by simp; omega⟩
  case round =>
    obtain ⟨g, t, vs, la, lc, ks, ka, kc, hq, hP, hR, hl1, hl2⟩ := hrel
    have b0 := hP.out.box.cell 0
    simp only [List.getElem?_toArray, List.getElem?_cons_zero] at b0
    have hq1 := hq.out
    clear hq
    cases g with
    | zero => exact absurd (by rw [hq1.2]; simp [loopL]) Hne.out
    | succ g =>
      have hq0 := hq1.2
      rw [loopL_step] at hq0
      by_cases hs5 : sort = 5
      · have h5b : (sort == 5) = true := by simpa using hs5
        rw [if_pos hs5] at hq0
        clear hs5
        cases hk : keyL t ks with
        | none =>
          rw [hk] at hq0
          have HE := Lib.hid hq0
          have Hk := Lib.hid hk
          clear hk hq0 hq1
          go_wp2_with fail
          refine (key_any b t _ sort w wr vs la lc ks ka kc hbl hR.out (by omega) (by omega) hP.out).mono ?_
          rw [Hk.out]
          rintro e' w6 ⟨rfl, t6, ks6, ka6, kc6, hr6, hp6⟩
          have HP6 := Lib.hid hp6
          have HR6 := Lib.hid hr6
          clear hp6 hr6 b0
          have q0 := HP6.out.res.cell 0
          have q1 := HP6.out.res.cell 1
          have q2 := HP6.out.res.cell 2
          have q3 := HP6.out.res.cell 3
          have q4 := HP6.out.res.cell 4
          have q5 := HP6.out.res.cell 5
          have g0 := HP6.out.res.free 0
          have g1 := HP6.out.res.free 1
          have g2 := HP6.out.res.free 2
          have g3 := HP6.out.res.free 3
          have g4 := HP6.out.res.free 4
          have g5 := HP6.out.res.free 5
          unfold zeroV at q0 q1 q2 q3 q4 q5
          simp only [List.getElem?_toArray, List.getElem?_cons_zero, List.getElem?_cons_succ] at q0 q1 q2 q3 q4 q5
          go_wp2
          refine leaves_dec (n0 := w.heap.size) (g := w.heap.size + 1) (b := b) (s := t6) (o := ((o : Int) + 1) - 1) rfl rfl (store6 HP6.out.res) (HP6.out.box.other6 (by omega)) ?_ (by omega) (by omega) (by omega) ?_
          · have := HR6.out.put6 (g := w.heap.size + 1) (by omega) (.int .i64 0) (.bool false) (.int .i64 0) (.string { data := #[] }) (.slice none 0 0) (.slice none 0 0)
            rw [show ((o : Int) + 1) - 1 + 1 = ((o : Int) + 1) by omega]
            exact this
          · exact vaE_err HE.out ((HP6.out.keep.put6 (by omega) _ _ _ _ _ _).open _) ((HR6.out.put6 (by omega) _ _ _ _ _ _).open _) (by omega) (by omega)
        | some p =>
          obtain ⟨k, r⟩ := p
          rw [hk] at hq0
          simp only at hq0
          have hkl0 := keyL_len hk
          have hq2 : g ≤ f ∧ res = elemL g (o + 1) sort e r (vs.map VD.v) (ks ++ [k]) := ⟨by have := hq1.1; omega, hq0⟩
          have Hk := Lib.hid hk
          clear hk hq0 hq1
          go_wp2_with fail
          refine (key_any b t _ sort w wr vs la lc ks ka kc hbl hR.out (by omega) (by omega) hP.out).mono ?_
          rw [Hk.out]
          rintro e' w5 ⟨rfl, ka5, kc5, hr5, hp5⟩
          obtain ⟨kn, hkn⟩ : ∃ kn, kn = ks ++ [k] := ⟨_, rfl⟩
          rw [← hkn] at hp5 hq2
          have hknl : kn.length ≤ ks.length + 1 := by rw [hkn, List.length_append, List.length_singleton]; omega
          clear hkn
          have HP5 := Lib.hid hp5
          have HR5 := Lib.hid hr5
          have hrs : r.length ≤ 1048576 := by omega
          have hvs5 : vs.length + r.length ≤ 1048576 := by omega
          clear hp5 hr5 b0
          have b0 := HP5.out.box.cell 0
          simp only [List.getElem?_toArray, List.getElem?_cons_zero] at b0
          cases g with
          | zero => exact absurd (by rw [hq2.2]; simp [elemL]) Hne.out
          | succ g =>
            have hg2 := hq2.2
            rw [elemL_step] at hg2
            have hnv : valL g (o + 1) r ≠ .out := fun hv => Hne.out (by rw [hg2, hv])
            have hcall := HV.out g (by have := hq2.1; omega) b r (o + 1) w5 (HP5.out.keep.glob HG.out hb8) hb8 (by have := HR5.out; simpa using this) (by omega) (by omega) hnv
            have Hcall := Lib.hid hcall
            have Hg2 := Lib.hid hg2
            have Hgf : Hid (g + 1 ≤ f) := Lib.hid (by have := hq2.1; omega)
            clear hq2 hg2 hcall hnv
            go_wp2_with fail
            refine Hcall.out.mono ?_
            clear Hcall
            cases hv : valL g (o + 1) r with
            | out => exact absurd (by rw [Hg2.out, hv]) Hne.out
            | err k =>
              rintro e' w6 ⟨d, t6, o6, rfl, hk6, hr6, ho6, ho7⟩
              have HP6 := Lib.hid (HP5.out.turn hbl hk6)
              have HR6 := Lib.hid hr6
              have hE : res = .err k := by rw [Hg2.out, hv]
              have HE := Lib.hid hE
              have hk12 := (read_err g).1 _ _ _ hv
              have hkn : (k != 0) = true := by rcases hk12 with rfl | rfl <;> rfl
              have ho8 : (o : Int) + 1 ≤ o6 := by push_cast at ho6; omega
              have ho9 : o6 ≤ (o : Int) + 2 := by push_cast at ho7; omega
              rw [VD.val_eq']
              obtain ⟨w7, hw7⟩ : ∃ w7, w7 = w6.alloc (.cells #[.int .i64 d.sort, .bool d.on, .int .i64 d.n, .string ⟨d.text.toArray⟩, .slice d.a d.list.length d.c, .slice d.ka d.keys.length d.kc] 34) := ⟨_, rfl⟩
              have hb7 : Below w6.heap.size w6 w7 := by rw [hw7]; exact below_a1 _ _
              have HP7 := Lib.hid (HP6.out.ext hbl hb7)
              have HR7 := Lib.hid (HR6.out.ext hb7)
              have Hw7 := Lib.hid hw7
              clear hk6 hr6 hE hv ho6 ho7 hk12 hb7 hw7
              go_upto_region 14 with (fail)
              rw [← Hw7.out]
              clear Hw7
              have q0 := HP7.out.res.cell 0
              have q1 := HP7.out.res.cell 1
              have q2 := HP7.out.res.cell 2
              have q3 := HP7.out.res.cell 3
              have q4 := HP7.out.res.cell 4
              have q5 := HP7.out.res.cell 5
              have g0 := HP7.out.res.free 0
              have g1 := HP7.out.res.free 1
              have g2 := HP7.out.res.free 2
              have g3 := HP7.out.res.free 3
              have g4 := HP7.out.res.free 4
              have g5 := HP7.out.res.free 5
              unfold zeroV at q0 q1 q2 q3 q4 q5
              simp only [List.getElem?_toArray, List.getElem?_cons_zero, List.getElem?_cons_succ] at q0 q1 q2 q3 q4 q5
              go_wp2
              refine leaves_dec (n0 := w.heap.size) (g := w.heap.size + 1) (b := b) (s := t6) (o := o6 - 1) rfl rfl (store6 HP7.out.res) (HP7.out.box.other6 (by omega)) ?_ (by omega) (by omega) (by omega) ?_
              · have := HR7.out.put6 (g := w.heap.size + 1) (by omega) (.int .i64 0) (.bool false) (.int .i64 0) (.string { data := #[] }) (.slice none 0 0) (.slice none 0 0)
                rw [show o6 - 1 + 1 = o6 by omega]
                exact this
              · exact vaE_err HE.out ((HP7.out.keep.put6 (by omega) _ _ _ _ _ _).open _) ((HR7.out.put6 (by omega) _ _ _ _ _ _).open _) (by omega) (by omega)
            | ok x r2 =>
              rintro e' w6 ⟨d, rfl, hdv, hda, hk6, hr6⟩
              rw [VD.val_eq']
              have hp6 := HP5.out.turn hbl hk6
              have hg3 : res = (match takes [e] r2 with | some r => .ok (.mk sort false 0 [] (vs.map VD.v ++ [x]) kn) r | none => match takes [44] r2 with | some r => loopL g (o + 1) sort e r (vs.map VD.v ++ [x]) kn | none => .err 21) := by rw [Hg2.out, hv]; rfl
              have hlen6 := (read_len g).1 _ _ _ _ hv
              have hr6' : RdAt w6 b r2 ((o : Int) + 1) := by simpa using hr6
              have hfr : ∀ k, w5.heap.size ≤ k → w.heap.size + 3 ≤ k ∧ rowOf la lc ≠ some k ∧ rowOf ka5 kc5 ≠ some k := fun k hk => ⟨by have := HP5.out.blk.lt; omega, fun e => own_new HP5.out.own hk e.symm, fun e => own_new HP5.out.kown hk e.symm⟩
              have hda2 := hda.mono (q := fun k => w.heap.size + 3 ≤ k ∧ rowOf la lc ≠ some k ∧ rowOf ka5 kc5 ≠ some k) fun k hk _ => hfr k hk
              have Hdv := Lib.hid hdv
              have Hg3 := Lib.hid hg3
              have hls6 := hp6.blk.lt
              obtain ⟨w7, hw7⟩ : ∃ w7, w7 = w6.alloc (.cells #[.int .i64 d.sort, .bool d.on, .int .i64 d.n, .string ⟨d.text.toArray⟩, .slice d.a d.list.length d.c, .slice d.ka d.keys.length d.kc] 34) := ⟨_, rfl⟩
              have hb7 : Below w6.heap.size w6 w7 := by rw [hw7]; exact below_a1 _ _
              have hs7 : w7.heap.size = w6.heap.size + 1 := by rw [hw7]; simp
              obtain ⟨xb, hxb⟩ : ∃ xb, xb = w6.heap.size := ⟨_, rfl⟩
              have hx7 : Six w7 xb d := by
                have hbx : Blk w7 w6.heap.size #[.int .i64 d.sort, .bool d.on, .int .i64 d.n, .string ⟨d.text.toArray⟩, .slice d.a d.list.length d.c, .slice d.ka d.keys.length d.kc] 34 := by rw [hw7]; exact Blk.new rfl
                rw [hxb]
                exact ⟨hbx.cell 0, hbx.cell 1, hbx.cell 2, hbx.cell 3, hbx.cell 4, hbx.cell 5⟩
              have HX := Lib.hid hx7
              have HP7 := Lib.hid (hp6.ext hbl hb7)
              have HR7 := Lib.hid (hr6'.ext hb7)
              have HD7 := Lib.hid (hda2.ext hb7)
              have Hxr : Hid (some xb ≠ rowOf la lc) := Lib.hid (by rw [hxb]; exact own_new hp6.own (Nat.le_refl _))
              have Hxl : Hid (xb < w7.heap.size) := Lib.hid (by omega)
              have Hxs : Hid (xb < w7.heap.size) := Lib.hid (by omega)
              have Hxl2 : Hid (w.heap.size + 2 < xb) := Lib.hid (by omega)
              have hcap := hp6.own.le
              have hw73 : w.heap.size + 3 ≤ w7.heap.size := by omega
              have hvl : vs.length + r2.length ≤ 1048576 := by omega
              have hkl : kn.length + r2.length ≤ 1048576 := by omega
              have l4' := HP7.out.blk.cell 4
              simp only [List.getElem?_toArray, List.getElem?_cons_zero, List.getElem?_cons_succ] at l4'
              have Hw7 := Lib.hid hw7
              have Hxb := Lib.hid hxb
              clear hk6 hr6 hr6' hp6 hg3 hdv hda hda2 hv hfr hb7 hs7 hx7 hls6 hw7 hxb
              go_upto_region 16 with (fail)
              rw [← Hw7.out, ← Hxb.out]
              clear Hw7 Hxb
              refine wp_region_held_drew (S := fun w' => Six w' xb d) (by kernel_rfl) ?_ (fun hHeld => ?_)
              · exact HX.out
              refine wpAnyH_take (i := 0) (oi := ⟨some 55, _, _, _, _, _⟩) (v := ?_) rfl (by kernel_rfl) (by kernel_rfl) (by kernel_rfl) (fun _ _ _ h => h) (Or.inl ⟨by rfl, ?_⟩) (by assumption) ?_; rotate_left; focus (intro w hSw; (try dsimp only at hSw); first | (go_simp; done) | (go_simp; with_reducible rfl))
              try simp only [Act.put]
              try simp only [List.setIfInBounds_toArray]
              try simp only [List.set_cons_succ, List.set_cons_zero]
              refine wpAnyH_take (i := 2) (oi := ⟨some 57, _, _, _, _, _⟩) (v := ?_) rfl (by kernel_rfl) (by kernel_rfl) (by kernel_rfl) (fun _ _ _ h => h) (Or.inl ⟨by rfl, ?_⟩) (by assumption) ?_; rotate_left; focus (intro w hSw; (try dsimp only at hSw); (obtain ⟨y0, y1, y2, y3, y4, y5⟩ := hSw; first | (go_simp; done) | (go_simp; with_reducible rfl)))
              try simp only [Act.put]
              try simp only [List.setIfInBounds_toArray]
              try simp only [List.set_cons_succ, List.set_cons_zero]
              refine wpAnyH_ready (rs := [1, 4]) (by kernel_rfl) (by simp) ?_
              refine AllReadyH.cons (i := 1) (o := ⟨some 56, _, _, _, _, _⟩) rfl (fun K hK => ?_) ?_
              · go_simp
                refine hK.out _ _ ?_ (fun hHeld => ?_)
                · exact hHeld
                try simp only [Act.put]
                try simp only [List.setIfInBounds_toArray]
                try simp only [List.set_cons_succ, List.set_cons_zero]
                refine wpAnyH_take (i := 3) (oi := ⟨some 58, _, _, _, _, _⟩) (v := ?_) rfl (by kernel_rfl) (by kernel_rfl) (by kernel_rfl) (fun _ _ _ h => h) (Or.inl ⟨by rfl, ?_⟩) (by assumption) ?_; rotate_left; focus (intro w hSw; (try dsimp only at hSw); first | (go_simp; done) | (go_simp; with_reducible rfl))
                try simp only [Act.put]
                try simp only [List.setIfInBounds_toArray]
                try simp only [List.set_cons_succ, List.set_cons_zero]
                refine wpAnyH_ready (rs := [4]) (by kernel_rfl) (by simp) ?_
                refine AllReadyH.cons (i := 4) (o := ⟨some 59, _, _, _, _, _⟩) rfl (fun K hK => ?_) ?_
                · go_simp
                  refine hK.out _ _ ?_ (fun hHeld => ?_)
                  · exact hHeld.ext (below_a1 _ _)
                  try simp only [Act.put]
                  try simp only [List.setIfInBounds_toArray]
                  try simp only [List.set_cons_succ, List.set_cons_zero]
                  refine wpAnyH_ready (rs := [5]) (by kernel_rfl) (by simp) ?_
                  refine AllReadyH.cons (i := 5) (o := ⟨some 60, _, _, _, _, _⟩) rfl (fun K hK => ?_) ?_
                  · refine step_append_Own rfl (.tmp 56) (.tmp 59) 32 rfl (w.heap.size + 3) 34 _ 6 88 Tryz.underlying32 Tryz.infoVal rfl (by decide) la vs.length lc _ (by simp [go_sem]) (by exact HP7.out.own.alloc _) _ 1 1 [.int .i64 0, .bool false, .int .i64 0, .string { data := #[] }, .slice none 0 0, .slice none 0 0] (by simp [go_sem]; rfl) (by exact Row.new1 (by simp) rfl rfl) (by intro u hu; simp at hu; rcases hu with rfl | rfl | rfl | rfl | rfl | rfl <;> rfl) (by unfold maxLen; omega) (by omega) (by simp; omega) ?_
                    intro a5 c5 w8 hown8 hg8 hbk8
                    obtain ⟨gb, off, rfl⟩ := hown8.addr (by have := hown8.le; omega)
                    obtain ⟨⟨s0, s1, s2, s3, s4, s5⟩, ⟨z0, z1, z2, z3, z4, z5⟩, hgb⟩ := hown8.slots6
                    have hv8 : Blk w8 (w.heap.size + 2) #[.int .i64 sort, .bool false, .int .i64 0, .string { data := #[] }, .slice la vs.length lc, .slice ka5 kn.length kc5] 34 := by
                      first
                        | exact Blk.grown (Blk.drew (Blk.alloc HP7.out.blk _)) hg8 (HP7.out.own.apart (by omega))
                        | exact Blk.grown (Blk.alloc HP7.out.blk _) hg8 (HP7.out.own.apart (by omega))
                        | exact Blk.grown (Blk.alloc (Blk.drew HP7.out.blk) _) hg8 (HP7.out.own.apart (by omega))
                    have l4 := hv8.cell 4
                    have m4 := hv8.free 4
                    simp only [List.getElem?_toArray, List.getElem?_cons_zero, List.getElem?_cons_succ] at l4
                    have hgv : gb ≠ w.heap.size + 2 := by omega
                    have hxg : xb ≠ gb := by
                      intro he
                      have hr8 : rowOf (some ⟨gb, off, none⟩) c5 = some gb := by rw [rowOf_pos (by have := hown8.le; omega)]; rfl
                      rcases hbk8 with h | h
                      · exact Hxr.out (by rw [← h, hr8, he])
                      · rw [hr8] at h; injection h with h; have := Hxs.out; simp at h; omega
                    have hgf := grown_from (w7 := w7) (by first | exact below_a1 w7 _ | exact (below_a1 w7 _).drew | exact (Below.refl _ w7).drew.alloc (Nat.le_refl _) _) hg8 hbk8
                    have Hown8 := Lib.hid hown8
                    have Hg8 := Lib.hid hg8
                    have Hgf8 := Lib.hid hgf
                    clear hown8 hg8 hbk8 hv8 hgf
                    refine hK.out _ _ ?_ (fun hHeld => ?_)
                    · exact (hHeld).block (Hg8.out.block xb (by have := Hxl.out; simp; omega) Hxr.out)
                    try simp only [Act.put]
                    try simp only [List.setIfInBounds_toArray]
                    try simp only [List.set_cons_succ, List.set_cons_zero]
                    refine wpAnyH_take (i := 6) (oi := ⟨some 61, _, _, _, _, _⟩) (v := ?_) rfl (by kernel_rfl) (by kernel_rfl) (by kernel_rfl) (fun _ _ _ h => h) (Or.inl ⟨by rfl, ?_⟩) (by assumption) ?_; rotate_left; focus (intro w hSw; (try dsimp only at hSw); (have hlt1 : ((vs.length : Int) < (vs.length : Int) + 1) = True := eq_true (by omega); first | (go_simp; done) | (go_simp; with_reducible rfl)))
                    try simp only [Act.put]
                    try simp only [List.setIfInBounds_toArray]
                    try simp only [List.set_cons_succ, List.set_cons_zero]
                    refine wpAnyH_take (i := 8) (oi := ⟨some 62, _, _, _, _, _⟩) (v := ?_) rfl (by kernel_rfl) (by kernel_rfl) (by kernel_rfl) (fun _ _ _ h => h) (Or.inl ⟨by rfl, ?_⟩) (by assumption) ?_; rotate_left; focus (intro w hSw; (try dsimp only at hSw); first | (go_simp; done) | (go_simp; with_reducible rfl))
                    try simp only [Act.put]
                    try simp only [List.setIfInBounds_toArray]
                    try simp only [List.set_cons_succ, List.set_cons_zero]
                    refine wpAnyH_ready (rs := [7, 9]) (by kernel_rfl) (by simp) ?_
                    refine AllReadyH.cons (i := 7) (o := ⟨none, _, _, _, _, _⟩) rfl (fun K hK => ?_) ?_
                    · go_simp
                      refine hK.out _ _ ?_ (fun hHeld => ?_)
                      · exact hHeld.block (put6_other (g := gb) (o := off + vs.length * 6) hxg)
                      try simp only [Act.put]
                      try simp only [List.setIfInBounds_toArray]
                      try simp only [List.set_cons_succ, List.set_cons_zero]
                      refine wpAnyH_ready (rs := [9]) (by kernel_rfl) (by simp) ?_
                      refine AllReadyH.cons (i := 9) (o := ⟨none, _, _, _, _, _⟩) rfl (fun K hK => ?_) ?_
                      · go_simp
                        refine hK.out _ _ ?_ (fun hHeld => ?_)
                        · exact hHeld.block (Below.heap_setCell _ ⟨w.heap.size + 2, 4, none⟩ _ xb (by show xb ≠ w.heap.size + 2; have := Hxl2.out; omega))
                        try simp only [Act.put]
                        try simp only [List.setIfInBounds_toArray]
                        try simp only [List.set_cons_succ, List.set_cons_zero]
                        refine wpAnyH_done (by kernel_rfl) ?_ _
                        have hP9 := HP7.out.pushVal (w' := put6 w8 gb (off + vs.length * 6) (.int .i64 d.sort) (.bool d.on) (.int .i64 d.n) (.string ⟨d.text.toArray⟩) (.slice d.a d.list.length d.c) (.slice d.ka d.keys.length d.kc)) (x := d) HD7.out (Own.put6 d Hown8.out)
                          (fun j hj h1 h2 => (put6_other (fun e => h2 (by rw [rowOf_pos (by have := Hown8.out.le; omega), e]; rfl))).trans (Hgf8.out.1 j hj h1)) (put6_below Hgf8.out.2.1 (Nat.zero_le _)) Hgf8.out.2.2
                        have hbg : b ≠ gb := by omega
                        have hR9 : RdAt ((put6 w8 gb (off + vs.length * 6) (.int .i64 d.sort) (.bool d.on) (.int .i64 d.n) (.string ⟨d.text.toArray⟩) (.slice d.a d.list.length d.c) (.slice d.ka d.keys.length d.kc)).setCell ⟨w.heap.size + 2, 4, none⟩ (.slice (some ⟨gb, off, none⟩) (vs.length + 1) c5)) b r2 ((o : Int) + 1) :=
                          Blk.other (p := ⟨w.heap.size + 2, 4, none⟩) ((put6_other hbg).trans ((Hgf8.out.1 b (Blk.lt HR7.out) (HP7.out.own.apart (by omega))).trans HR7.out)) (by show b ≠ w.heap.size + 2; omega) _
                        obtain ⟨W9, hW9⟩ : ∃ W9, W9 = (((((((w8.setCell ⟨gb, off + vs.length * 6, none⟩ (.int .i64 d.sort)).setCell ⟨gb, off + vs.length * 6 + 1, none⟩ (.bool d.on)).setCell ⟨gb, off + vs.length * 6 + 2, none⟩ (.int .i64 d.n)).setCell ⟨gb, off + vs.length * 6 + 3, none⟩ (.string ⟨d.text.toArray⟩)).setCell ⟨gb, off + vs.length * 6 + 4, none⟩ (.slice d.a d.list.length d.c)).setCell ⟨gb, off + vs.length * 6 + 5, none⟩ (.slice d.ka d.keys.length d.kc)).setCell ⟨w.heap.size + 1 + 1, 4, none⟩ (.slice (some ⟨gb, off, none⟩) (vs.length + 1) c5)) := ⟨_, rfl⟩
                        rw [← hW9]
                        have HP9 : Hid (PV w W9 b sort (vs ++ [d]) (some ⟨gb, off, none⟩) c5 kn ka5 kc5) := Lib.hid (by rw [hW9]; exact hP9)
                        have HR9 : Hid (RdAt W9 b r2 ((o : Int) + 1)) := Lib.hid (by rw [hW9]; exact hR9)
                        clear hP9 hR9 hW9 hbg s0 s1 s2 s3 s4 s5 z0 z1 z2 z3 z4 z5 hgb l4 m4 hgv hxg Hown8 Hg8 Hgf8 HX Hxr Hxl Hxs Hxl2 HP7 HR7 HD7 l4'
                        have b0 := HP9.out.box.cell 0
                        simp only [List.getElem?_toArray, List.getElem?_cons_zero] at b0
                        cases ht : takes [e] r2 with
                        | some r3 =>
                          have hE : res = .ok (.mk sort false 0 [] ((vs ++ [d]).map VD.v) kn) r3 := by rw [Hg3.out, ht, List.map_append, List.map_singleton, Hdv.out]
                          have HE := Lib.hid hE
                          have HT := Lib.hid ht
                          clear hE ht
                          go_wp2_with fail
                          refine (takes_yes b r2 [e] r3 _ W9 HR9.out HT.out).mono ?_
                          rintro e' W10 ⟨rfl, hk10, hr10⟩
                          have hp10 := HP9.out.turn hbl hk10
                          have HR10 := Lib.hid hr10
                          have HP10 := Lib.hid hp10
                          have v0 := hp10.blk.cell 0
                          have v1 := hp10.blk.cell 1
                          have v2 := hp10.blk.cell 2
                          have v3 := hp10.blk.cell 3
                          have v4 := hp10.blk.cell 4
                          have v5 := hp10.blk.cell 5
                          simp only [List.getElem?_toArray, List.getElem?_cons_zero, List.getElem?_cons_succ] at v0 v1 v2 v3 v4 v5
                          rw [List.length_append, List.length_singleton] at v4
                          clear hk10 hr10 b0 hp10
                          have q0 := HP10.out.res.cell 0
                          have q1 := HP10.out.res.cell 1
                          have q2 := HP10.out.res.cell 2
                          have q3 := HP10.out.res.cell 3
                          have q4 := HP10.out.res.cell 4
                          have q5 := HP10.out.res.cell 5
                          have g0 := HP10.out.res.free 0
                          have g1 := HP10.out.res.free 1
                          have g2 := HP10.out.res.free 2
                          have g3 := HP10.out.res.free 3
                          have g4 := HP10.out.res.free 4
                          have g5 := HP10.out.res.free 5
                          unfold zeroV at q0 q1 q2 q3 q4 q5
                          simp only [List.getElem?_toArray, List.getElem?_cons_zero, List.getElem?_cons_succ] at q0 q1 q2 q3 q4 q5
                          go_wp2
                          have hfin := vaE_parts (o := o) HE.out HP10.out hbl HR10.out
                          rw [List.length_append, List.length_singleton] at hfin
                          exact leaves_dec (n0 := w.heap.size) (g := w.heap.size + 1) (b := b) (s := r3) (o := o) rfl rfl (store6 HP10.out.res) (HP10.out.box.other6 (by omega)) (HR10.out.put6 (by omega) _ _ _ _ _ _) hoj (by omega) (by omega) hfin
                        | none =>
                          have hg4 : res = match takes [44] r2 with | some r => loopL g (o + 1) sort e r (vs.map VD.v ++ [x]) kn | none => .err 21 := by rw [Hg3.out, ht]
                          have Hg4 := Lib.hid hg4
                          have HT := Lib.hid ht
                          clear hg4 ht
                          go_wp2_with fail
                          refine (takes_no b r2 [e] _ W9 HR9.out HT.out).mono ?_
                          rintro e' W10 ⟨rfl, hk10, hr10⟩
                          have HP10 := Lib.hid (HP9.out.turn hbl hk10)
                          have HR10 := Lib.hid hr10
                          clear hk10 hr10 b0
                          have b0 := HP10.out.box.cell 0
                          simp only [List.getElem?_toArray, List.getElem?_cons_zero] at b0
                          cases ht2 : takes [44] r2 with
                          | none =>
                            have hE : res = .err 21 := by rw [Hg4.out, ht2]
                            have HE := Lib.hid hE
                            have HT2 := Lib.hid ht2
                            clear hE ht2
                            go_wp2_with fail
                            refine (takes_no b r2 [44] _ W10 HR10.out HT2.out).mono ?_
                            rintro e' W11 ⟨rfl, hk11, hr11⟩
                            have HP11 := Lib.hid (HP10.out.turn hbl hk11)
                            have HR11 := Lib.hid hr11
                            clear hk11 hr11 b0
                            have q0 := HP11.out.res.cell 0
                            have q1 := HP11.out.res.cell 1
                            have q2 := HP11.out.res.cell 2
                            have q3 := HP11.out.res.cell 3
                            have q4 := HP11.out.res.cell 4
                            have q5 := HP11.out.res.cell 5
                            have g0 := HP11.out.res.free 0
                            have g1 := HP11.out.res.free 1
                            have g2 := HP11.out.res.free 2
                            have g3 := HP11.out.res.free 3
                            have g4 := HP11.out.res.free 4
                            have g5 := HP11.out.res.free 5
                            unfold zeroV at q0 q1 q2 q3 q4 q5
                            simp only [List.getElem?_toArray, List.getElem?_cons_zero, List.getElem?_cons_succ] at q0 q1 q2 q3 q4 q5
                            go_wp2
                            refine leaves_dec (n0 := w.heap.size) (g := w.heap.size + 1) (b := b) (s := r2) (o := ((o : Int) + 1) - 1) rfl rfl (store6 HP11.out.res) (HP11.out.box.other6 (by omega)) ?_ (by omega) (by omega) (by omega) ?_
                            · have := HR11.out.put6 (g := w.heap.size + 1) (by omega) (.int .i64 0) (.bool false) (.int .i64 0) (.string { data := #[] }) (.slice none 0 0) (.slice none 0 0)
                              rw [show ((o : Int) + 1) - 1 + 1 = ((o : Int) + 1) by omega]
                              exact this
                            · exact vaE_err HE.out ((HP11.out.keep.put6 (by omega) _ _ _ _ _ _).open _) ((HR11.out.put6 (by omega) _ _ _ _ _ _).open _) (by omega) (by omega)
                          | some r4 =>
                            have hE : g ≤ f ∧ res = loopL g (o + 1) sort e r4 ((vs ++ [d]).map VD.v) kn := ⟨by have := Hgf.out; omega, by rw [Hg4.out, ht2, List.map_append, List.map_singleton, Hdv.out]⟩
                            have HE := Lib.hid hE
                            have hl4 := takes_len ht2
                            have HT2 := Lib.hid ht2
                            clear hE ht2
                            go_wp2_with fail
                            refine (takes_yes b r2 [44] r4 _ W10 HR10.out HT2.out).mono ?_
                            rintro e' W11 ⟨rfl, hk11, hr11⟩
                            have HP11 := Lib.hid (HP10.out.turn hbl hk11)
                            have HR11 := Lib.hid hr11
                            have Hm : Hid (leftAt W11 b < leftAt wr b) := Lib.hid (by rw [leftAt_of HR11.out, leftAt_of hR.out]; simp only [List.length_singleton] at hl4; omega)
                            have hvl' : (vs ++ [d]).length + r4.length ≤ 1048576 := by rw [List.length_append, List.length_singleton]; simp only [List.length_singleton] at hl4; omega
                            have hkl' : kn.length + r4.length ≤ 1048576 := by omega
                            clear hk11 hr11 b0
                            go_wp2
                            go_roundw
                            case rel => exact ⟨g, r4, vs ++ [d], some ⟨gb, off, none⟩, c5, kn, ka5, kc5, HE, HP11, HR11, hvl', hkl'⟩
                            case measure => exact Hm.out
                      exact AllReadyH.nil
                    refine AllReadyH.cons (i := 9) (o := ⟨none, _, _, _, _, _⟩) rfl (fun K hK => ?_) ?_
                    · go_simp
                      refine hK.out _ _ ?_ (fun hHeld => ?_)
                      · exact hHeld.block (Below.heap_setCell _ ⟨w.heap.size + 2, 4, none⟩ _ xb (by show xb ≠ w.heap.size + 2; have := Hxl2.out; omega))
                      try simp only [Act.put]
                      try simp only [List.setIfInBounds_toArray]
                      try simp only [List.set_cons_succ, List.set_cons_zero]
                      refine wpAnyH_ready (rs := [7]) (by kernel_rfl) (by simp) ?_
                      refine AllReadyH.cons (i := 7) (o := ⟨none, _, _, _, _, _⟩) rfl (fun K hK => ?_) ?_
                      · go_simp
                        refine hK.out _ _ ?_ (fun hHeld => ?_)
                        · exact hHeld.block (put6_other (g := gb) (o := off + vs.length * 6) hxg)
                        try simp only [Act.put]
                        try simp only [List.setIfInBounds_toArray]
                        try simp only [List.set_cons_succ, List.set_cons_zero]
                        refine wpAnyH_done (by kernel_rfl) ?_ _
                        have hP9 := HP7.out.pushVal (w' := put6 w8 gb (off + vs.length * 6) (.int .i64 d.sort) (.bool d.on) (.int .i64 d.n) (.string ⟨d.text.toArray⟩) (.slice d.a d.list.length d.c) (.slice d.ka d.keys.length d.kc)) (x := d) HD7.out (Own.put6 d Hown8.out)
                          (fun j hj h1 h2 => (put6_other (fun e => h2 (by rw [rowOf_pos (by have := Hown8.out.le; omega), e]; rfl))).trans (Hgf8.out.1 j hj h1)) (put6_below Hgf8.out.2.1 (Nat.zero_le _)) Hgf8.out.2.2
                        have hbg : b ≠ gb := by omega
                        have hR9 : RdAt ((put6 w8 gb (off + vs.length * 6) (.int .i64 d.sort) (.bool d.on) (.int .i64 d.n) (.string ⟨d.text.toArray⟩) (.slice d.a d.list.length d.c) (.slice d.ka d.keys.length d.kc)).setCell ⟨w.heap.size + 2, 4, none⟩ (.slice (some ⟨gb, off, none⟩) (vs.length + 1) c5)) b r2 ((o : Int) + 1) :=
                          Blk.other (p := ⟨w.heap.size + 2, 4, none⟩) ((put6_other hbg).trans ((Hgf8.out.1 b (Blk.lt HR7.out) (HP7.out.own.apart (by omega))).trans HR7.out)) (by show b ≠ w.heap.size + 2; omega) _
                        rw [← put6_comm (q := ⟨w.heap.size + 2, 4, none⟩) hgv] at hP9 hR9
                        obtain ⟨W9, hW9⟩ : ∃ W9, W9 = (((((((w8.setCell ⟨w.heap.size + 1 + 1, 4, none⟩ (.slice (some ⟨gb, off, none⟩) (vs.length + 1) c5)).setCell ⟨gb, off + vs.length * 6, none⟩ (.int .i64 d.sort)).setCell ⟨gb, off + vs.length * 6 + 1, none⟩ (.bool d.on)).setCell ⟨gb, off + vs.length * 6 + 2, none⟩ (.int .i64 d.n)).setCell ⟨gb, off + vs.length * 6 + 3, none⟩ (.string ⟨d.text.toArray⟩)).setCell ⟨gb, off + vs.length * 6 + 4, none⟩ (.slice d.a d.list.length d.c)).setCell ⟨gb, off + vs.length * 6 + 5, none⟩ (.slice d.ka d.keys.length d.kc)) := ⟨_, rfl⟩
                        rw [← hW9]
                        have HP9 : Hid (PV w W9 b sort (vs ++ [d]) (some ⟨gb, off, none⟩) c5 kn ka5 kc5) := Lib.hid (by rw [hW9]; exact hP9)
                        have HR9 : Hid (RdAt W9 b r2 ((o : Int) + 1)) := Lib.hid (by rw [hW9]; exact hR9)
                        clear hP9 hR9 hW9 hbg s0 s1 s2 s3 s4 s5 z0 z1 z2 z3 z4 z5 hgb l4 m4 hgv hxg Hown8 Hg8 Hgf8 HX Hxr Hxl Hxs Hxl2 HP7 HR7 HD7 l4'
                        have b0 := HP9.out.box.cell 0
                        simp only [List.getElem?_toArray, List.getElem?_cons_zero] at b0
                        cases ht : takes [e] r2 with
                        | some r3 =>
                          have hE : res = .ok (.mk sort false 0 [] ((vs ++ [d]).map VD.v) kn) r3 := by rw [Hg3.out, ht, List.map_append, List.map_singleton, Hdv.out]
                          have HE := Lib.hid hE
                          have HT := Lib.hid ht
                          clear hE ht
                          go_wp2_with fail
                          refine (takes_yes b r2 [e] r3 _ W9 HR9.out HT.out).mono ?_
                          rintro e' W10 ⟨rfl, hk10, hr10⟩
                          have hp10 := HP9.out.turn hbl hk10
                          have HR10 := Lib.hid hr10
                          have HP10 := Lib.hid hp10
                          have v0 := hp10.blk.cell 0
                          have v1 := hp10.blk.cell 1
                          have v2 := hp10.blk.cell 2
                          have v3 := hp10.blk.cell 3
                          have v4 := hp10.blk.cell 4
                          have v5 := hp10.blk.cell 5
                          simp only [List.getElem?_toArray, List.getElem?_cons_zero, List.getElem?_cons_succ] at v0 v1 v2 v3 v4 v5
                          rw [List.length_append, List.length_singleton] at v4
                          clear hk10 hr10 b0 hp10
                          have q0 := HP10.out.res.cell 0
                          have q1 := HP10.out.res.cell 1
                          have q2 := HP10.out.res.cell 2
                          have q3 := HP10.out.res.cell 3
                          have q4 := HP10.out.res.cell 4
                          have q5 := HP10.out.res.cell 5
                          have g0 := HP10.out.res.free 0
                          have g1 := HP10.out.res.free 1
                          have g2 := HP10.out.res.free 2
                          have g3 := HP10.out.res.free 3
                          have g4 := HP10.out.res.free 4
                          have g5 := HP10.out.res.free 5
                          unfold zeroV at q0 q1 q2 q3 q4 q5
                          simp only [List.getElem?_toArray, List.getElem?_cons_zero, List.getElem?_cons_succ] at q0 q1 q2 q3 q4 q5
                          go_wp2
                          have hfin := vaE_parts (o := o) HE.out HP10.out hbl HR10.out
                          rw [List.length_append, List.length_singleton] at hfin
                          exact leaves_dec (n0 := w.heap.size) (g := w.heap.size + 1) (b := b) (s := r3) (o := o) rfl rfl (store6 HP10.out.res) (HP10.out.box.other6 (by omega)) (HR10.out.put6 (by omega) _ _ _ _ _ _) hoj (by omega) (by omega) hfin
                        | none =>
                          have hg4 : res = match takes [44] r2 with | some r => loopL g (o + 1) sort e r (vs.map VD.v ++ [x]) kn | none => .err 21 := by rw [Hg3.out, ht]
                          have Hg4 := Lib.hid hg4
                          have HT := Lib.hid ht
                          clear hg4 ht
                          go_wp2_with fail
                          refine (takes_no b r2 [e] _ W9 HR9.out HT.out).mono ?_
                          rintro e' W10 ⟨rfl, hk10, hr10⟩
                          have HP10 := Lib.hid (HP9.out.turn hbl hk10)
                          have HR10 := Lib.hid hr10
                          clear hk10 hr10 b0
                          have b0 := HP10.out.box.cell 0
                          simp only [List.getElem?_toArray, List.getElem?_cons_zero] at b0
                          cases ht2 : takes [44] r2 with
                          | none =>
                            have hE : res = .err 21 := by rw [Hg4.out, ht2]
                            have HE := Lib.hid hE
                            have HT2 := Lib.hid ht2
                            clear hE ht2
                            go_wp2_with fail
                            refine (takes_no b r2 [44] _ W10 HR10.out HT2.out).mono ?_
                            rintro e' W11 ⟨rfl, hk11, hr11⟩
                            have HP11 := Lib.hid (HP10.out.turn hbl hk11)
                            have HR11 := Lib.hid hr11
                            clear hk11 hr11 b0
                            have q0 := HP11.out.res.cell 0
                            have q1 := HP11.out.res.cell 1
                            have q2 := HP11.out.res.cell 2
                            have q3 := HP11.out.res.cell 3
                            have q4 := HP11.out.res.cell 4
                            have q5 := HP11.out.res.cell 5
                            have g0 := HP11.out.res.free 0
                            have g1 := HP11.out.res.free 1
                            have g2 := HP11.out.res.free 2
                            have g3 := HP11.out.res.free 3
                            have g4 := HP11.out.res.free 4
                            have g5 := HP11.out.res.free 5
                            unfold zeroV at q0 q1 q2 q3 q4 q5
                            simp only [List.getElem?_toArray, List.getElem?_cons_zero, List.getElem?_cons_succ] at q0 q1 q2 q3 q4 q5
                            go_wp2
                            refine leaves_dec (n0 := w.heap.size) (g := w.heap.size + 1) (b := b) (s := r2) (o := ((o : Int) + 1) - 1) rfl rfl (store6 HP11.out.res) (HP11.out.box.other6 (by omega)) ?_ (by omega) (by omega) (by omega) ?_
                            · have := HR11.out.put6 (g := w.heap.size + 1) (by omega) (.int .i64 0) (.bool false) (.int .i64 0) (.string { data := #[] }) (.slice none 0 0) (.slice none 0 0)
                              rw [show ((o : Int) + 1) - 1 + 1 = ((o : Int) + 1) by omega]
                              exact this
                            · exact vaE_err HE.out ((HP11.out.keep.put6 (by omega) _ _ _ _ _ _).open _) ((HR11.out.put6 (by omega) _ _ _ _ _ _).open _) (by omega) (by omega)
                          | some r4 =>
                            have hE : g ≤ f ∧ res = loopL g (o + 1) sort e r4 ((vs ++ [d]).map VD.v) kn := ⟨by have := Hgf.out; omega, by rw [Hg4.out, ht2, List.map_append, List.map_singleton, Hdv.out]⟩
                            have HE := Lib.hid hE
                            have hl4 := takes_len ht2
                            have HT2 := Lib.hid ht2
                            clear hE ht2
                            go_wp2_with fail
                            refine (takes_yes b r2 [44] r4 _ W10 HR10.out HT2.out).mono ?_
                            rintro e' W11 ⟨rfl, hk11, hr11⟩
                            have HP11 := Lib.hid (HP10.out.turn hbl hk11)
                            have HR11 := Lib.hid hr11
                            have Hm : Hid (leftAt W11 b < leftAt wr b) := Lib.hid (by rw [leftAt_of HR11.out, leftAt_of hR.out]; simp only [List.length_singleton] at hl4; omega)
                            have hvl' : (vs ++ [d]).length + r4.length ≤ 1048576 := by rw [List.length_append, List.length_singleton]; simp only [List.length_singleton] at hl4; omega
                            have hkl' : kn.length + r4.length ≤ 1048576 := by omega
                            clear hk11 hr11 b0
                            go_wp2
                            go_roundw
                            case rel => exact ⟨g, r4, vs ++ [d], some ⟨gb, off, none⟩, c5, kn, ka5, kc5, HE, HP11, HR11, hvl', hkl'⟩
                            case measure => exact Hm.out
                      exact AllReadyH.nil
                    exact AllReadyH.nil
                  exact AllReadyH.nil
                exact AllReadyH.nil
              refine AllReadyH.cons (i := 4) (o := ⟨some 59, _, _, _, _, _⟩) rfl (fun K hK => ?_) ?_
              · go_simp
                refine hK.out _ _ ?_ (fun hHeld => ?_)
                · exact hHeld.ext (below_a1 _ _)
                try simp only [Act.put]
                try simp only [List.setIfInBounds_toArray]
                try simp only [List.set_cons_succ, List.set_cons_zero]
                refine wpAnyH_ready (rs := [1]) (by kernel_rfl) (by simp) ?_
                refine AllReadyH.cons (i := 1) (o := ⟨some 56, _, _, _, _, _⟩) rfl (fun K hK => ?_) ?_
                · have l4b : (w7.alloc (.cells #[.int .i64 0, .bool false, .int .i64 0, .string { data := #[] }, .slice none 0 0, .slice none 0 0] 34)).cell? ⟨w.heap.size + 2, 4, none⟩ = some (.slice la vs.length lc) := below_ext (below_a1 w7 _) l4'
                  have l4c : (w7.drew.alloc (.cells #[.int .i64 0, .bool false, .int .i64 0, .string { data := #[] }, .slice none 0 0, .slice none 0 0] 34)).cell? ⟨w.heap.size + 2, 4, none⟩ = some (.slice la vs.length lc) := below_ext (below_a1 w7.drew _) l4'
                  go_simp
                  refine hK.out _ _ ?_ (fun hHeld => ?_)
                  · exact hHeld
                  try simp only [Act.put]
                  try simp only [List.setIfInBounds_toArray]
                  try simp only [List.set_cons_succ, List.set_cons_zero]
                  refine wpAnyH_take (i := 3) (oi := ⟨some 58, _, _, _, _, _⟩) (v := ?_) rfl (by kernel_rfl) (by kernel_rfl) (by kernel_rfl) (fun _ _ _ h => h) (Or.inl ⟨by rfl, ?_⟩) (by assumption) ?_; rotate_left; focus (intro w hSw; (try dsimp only at hSw); first | (go_simp; done) | (go_simp; with_reducible rfl))
                  try simp only [Act.put]
                  try simp only [List.setIfInBounds_toArray]
                  try simp only [List.set_cons_succ, List.set_cons_zero]
                  refine wpAnyH_ready (rs := [5]) (by kernel_rfl) (by simp) ?_
                  refine AllReadyH.cons (i := 5) (o := ⟨some 60, _, _, _, _, _⟩) rfl (fun K hK => ?_) ?_
                  · refine step_append_Own rfl (.tmp 56) (.tmp 59) 32 rfl (w.heap.size + 3) 34 _ 6 88 Tryz.underlying32 Tryz.infoVal rfl (by decide) la vs.length lc _ (by simp [go_sem]) (by exact HP7.out.own.alloc _) _ 1 1 [.int .i64 0, .bool false, .int .i64 0, .string { data := #[] }, .slice none 0 0, .slice none 0 0] (by simp [go_sem]; rfl) (by exact Row.new1 (by simp) rfl rfl) (by intro u hu; simp at hu; rcases hu with rfl | rfl | rfl | rfl | rfl | rfl <;> rfl) (by unfold maxLen; omega) (by omega) (by simp; omega) ?_
                    intro a5 c5 w8 hown8 hg8 hbk8
                    obtain ⟨gb, off, rfl⟩ := hown8.addr (by have := hown8.le; omega)
                    obtain ⟨⟨s0, s1, s2, s3, s4, s5⟩, ⟨z0, z1, z2, z3, z4, z5⟩, hgb⟩ := hown8.slots6
                    have hv8 : Blk w8 (w.heap.size + 2) #[.int .i64 sort, .bool false, .int .i64 0, .string { data := #[] }, .slice la vs.length lc, .slice ka5 kn.length kc5] 34 := by
                      first
                        | exact Blk.grown (Blk.drew (Blk.alloc HP7.out.blk _)) hg8 (HP7.out.own.apart (by omega))
                        | exact Blk.grown (Blk.alloc HP7.out.blk _) hg8 (HP7.out.own.apart (by omega))
                        | exact Blk.grown (Blk.alloc (Blk.drew HP7.out.blk) _) hg8 (HP7.out.own.apart (by omega))
                    have l4 := hv8.cell 4
                    have m4 := hv8.free 4
                    simp only [List.getElem?_toArray, List.getElem?_cons_zero, List.getElem?_cons_succ] at l4
                    have hgv : gb ≠ w.heap.size + 2 := by omega
                    have hxg : xb ≠ gb := by
                      intro he
                      have hr8 : rowOf (some ⟨gb, off, none⟩) c5 = some gb := by rw [rowOf_pos (by have := hown8.le; omega)]; rfl
                      rcases hbk8 with h | h
                      · exact Hxr.out (by rw [← h, hr8, he])
                      · rw [hr8] at h; injection h with h; have := Hxs.out; simp at h; omega
                    have hgf := grown_from (w7 := w7) (by first | exact below_a1 w7 _ | exact (below_a1 w7 _).drew | exact (Below.refl _ w7).drew.alloc (Nat.le_refl _) _) hg8 hbk8
                    have Hown8 := Lib.hid hown8
                    have Hg8 := Lib.hid hg8
                    have Hgf8 := Lib.hid hgf
                    clear hown8 hg8 hbk8 hv8 hgf
                    refine hK.out _ _ ?_ (fun hHeld => ?_)
                    · exact (hHeld).block (Hg8.out.block xb (by have := Hxl.out; simp; omega) Hxr.out)
                    try simp only [Act.put]
                    try simp only [List.setIfInBounds_toArray]
                    try simp only [List.set_cons_succ, List.set_cons_zero]
                    refine wpAnyH_take (i := 6) (oi := ⟨some 61, _, _, _, _, _⟩) (v := ?_) rfl (by kernel_rfl) (by kernel_rfl) (by kernel_rfl) (fun _ _ _ h => h) (Or.inl ⟨by rfl, ?_⟩) (by assumption) ?_; rotate_left; focus (intro w hSw; (try dsimp only at hSw); (have hlt1 : ((vs.length : Int) < (vs.length : Int) + 1) = True := eq_true (by omega); first | (go_simp; done) | (go_simp; with_reducible rfl)))
                    try simp only [Act.put]
                    try simp only [List.setIfInBounds_toArray]
                    try simp only [List.set_cons_succ, List.set_cons_zero]
                    refine wpAnyH_take (i := 8) (oi := ⟨some 62, _, _, _, _, _⟩) (v := ?_) rfl (by kernel_rfl) (by kernel_rfl) (by kernel_rfl) (fun _ _ _ h => h) (Or.inl ⟨by rfl, ?_⟩) (by assumption) ?_; rotate_left; focus (intro w hSw; (try dsimp only at hSw); first | (go_simp; done) | (go_simp; with_reducible rfl))
                    try simp only [Act.put]
                    try simp only [List.setIfInBounds_toArray]
                    try simp only [List.set_cons_succ, List.set_cons_zero]
                    refine wpAnyH_ready (rs := [7, 9]) (by kernel_rfl) (by simp) ?_
                    refine AllReadyH.cons (i := 7) (o := ⟨none, _, _, _, _, _⟩) rfl (fun K hK => ?_) ?_
                    · go_simp
                      refine hK.out _ _ ?_ (fun hHeld => ?_)
                      · exact hHeld.block (put6_other (g := gb) (o := off + vs.length * 6) hxg)
                      try simp only [Act.put]
                      try simp only [List.setIfInBounds_toArray]
                      try simp only [List.set_cons_succ, List.set_cons_zero]
                      refine wpAnyH_ready (rs := [9]) (by kernel_rfl) (by simp) ?_
                      refine AllReadyH.cons (i := 9) (o := ⟨none, _, _, _, _, _⟩) rfl (fun K hK => ?_) ?_
                      · go_simp
                        refine hK.out _ _ ?_ (fun hHeld => ?_)
                        · exact hHeld.block (Below.heap_setCell _ ⟨w.heap.size + 2, 4, none⟩ _ xb (by show xb ≠ w.heap.size + 2; have := Hxl2.out; omega))
                        try simp only [Act.put]
                        try simp only [List.setIfInBounds_toArray]
                        try simp only [List.set_cons_succ, List.set_cons_zero]
                        refine wpAnyH_done (by kernel_rfl) ?_ _
                        have hP9 := HP7.out.pushVal (w' := put6 w8 gb (off + vs.length * 6) (.int .i64 d.sort) (.bool d.on) (.int .i64 d.n) (.string ⟨d.text.toArray⟩) (.slice d.a d.list.length d.c) (.slice d.ka d.keys.length d.kc)) (x := d) HD7.out (Own.put6 d Hown8.out)
                          (fun j hj h1 h2 => (put6_other (fun e => h2 (by rw [rowOf_pos (by have := Hown8.out.le; omega), e]; rfl))).trans (Hgf8.out.1 j hj h1)) (put6_below Hgf8.out.2.1 (Nat.zero_le _)) Hgf8.out.2.2
                        have hbg : b ≠ gb := by omega
                        have hR9 : RdAt ((put6 w8 gb (off + vs.length * 6) (.int .i64 d.sort) (.bool d.on) (.int .i64 d.n) (.string ⟨d.text.toArray⟩) (.slice d.a d.list.length d.c) (.slice d.ka d.keys.length d.kc)).setCell ⟨w.heap.size + 2, 4, none⟩ (.slice (some ⟨gb, off, none⟩) (vs.length + 1) c5)) b r2 ((o : Int) + 1) :=
                          Blk.other (p := ⟨w.heap.size + 2, 4, none⟩) ((put6_other hbg).trans ((Hgf8.out.1 b (Blk.lt HR7.out) (HP7.out.own.apart (by omega))).trans HR7.out)) (by show b ≠ w.heap.size + 2; omega) _
                        obtain ⟨W9, hW9⟩ : ∃ W9, W9 = (((((((w8.setCell ⟨gb, off + vs.length * 6, none⟩ (.int .i64 d.sort)).setCell ⟨gb, off + vs.length * 6 + 1, none⟩ (.bool d.on)).setCell ⟨gb, off + vs.length * 6 + 2, none⟩ (.int .i64 d.n)).setCell ⟨gb, off + vs.length * 6 + 3, none⟩ (.string ⟨d.text.toArray⟩)).setCell ⟨gb, off + vs.length * 6 + 4, none⟩ (.slice d.a d.list.length d.c)).setCell ⟨gb, off + vs.length * 6 + 5, none⟩ (.slice d.ka d.keys.length d.kc)).setCell ⟨w.heap.size + 1 + 1, 4, none⟩ (.slice (some ⟨gb, off, none⟩) (vs.length + 1) c5)) := ⟨_, rfl⟩
                        rw [← hW9]
                        have HP9 : Hid (PV w W9 b sort (vs ++ [d]) (some ⟨gb, off, none⟩) c5 kn ka5 kc5) := Lib.hid (by rw [hW9]; exact hP9)
                        have HR9 : Hid (RdAt W9 b r2 ((o : Int) + 1)) := Lib.hid (by rw [hW9]; exact hR9)
                        clear hP9 hR9 hW9 hbg s0 s1 s2 s3 s4 s5 z0 z1 z2 z3 z4 z5 hgb l4 m4 hgv hxg Hown8 Hg8 Hgf8 HX Hxr Hxl Hxs Hxl2 HP7 HR7 HD7 l4'
                        have b0 := HP9.out.box.cell 0
                        simp only [List.getElem?_toArray, List.getElem?_cons_zero] at b0
                        cases ht : takes [e] r2 with
                        | some r3 =>
                          have hE : res = .ok (.mk sort false 0 [] ((vs ++ [d]).map VD.v) kn) r3 := by rw [Hg3.out, ht, List.map_append, List.map_singleton, Hdv.out]
                          have HE := Lib.hid hE
                          have HT := Lib.hid ht
                          clear hE ht
                          go_wp2_with fail
                          refine (takes_yes b r2 [e] r3 _ W9 HR9.out HT.out).mono ?_
                          rintro e' W10 ⟨rfl, hk10, hr10⟩
                          have hp10 := HP9.out.turn hbl hk10
                          have HR10 := Lib.hid hr10
                          have HP10 := Lib.hid hp10
                          have v0 := hp10.blk.cell 0
                          have v1 := hp10.blk.cell 1
                          have v2 := hp10.blk.cell 2
                          have v3 := hp10.blk.cell 3
                          have v4 := hp10.blk.cell 4
                          have v5 := hp10.blk.cell 5
                          simp only [List.getElem?_toArray, List.getElem?_cons_zero, List.getElem?_cons_succ] at v0 v1 v2 v3 v4 v5
                          rw [List.length_append, List.length_singleton] at v4
                          clear hk10 hr10 b0 hp10
                          have q0 := HP10.out.res.cell 0
                          have q1 := HP10.out.res.cell 1
                          have q2 := HP10.out.res.cell 2
                          have q3 := HP10.out.res.cell 3
                          have q4 := HP10.out.res.cell 4
                          have q5 := HP10.out.res.cell 5
                          have g0 := HP10.out.res.free 0
                          have g1 := HP10.out.res.free 1
                          have g2 := HP10.out.res.free 2
                          have g3 := HP10.out.res.free 3
                          have g4 := HP10.out.res.free 4
                          have g5 := HP10.out.res.free 5
                          unfold zeroV at q0 q1 q2 q3 q4 q5
                          simp only [List.getElem?_toArray, List.getElem?_cons_zero, List.getElem?_cons_succ] at q0 q1 q2 q3 q4 q5
                          go_wp2
                          have hfin := vaE_parts (o := o) HE.out HP10.out hbl HR10.out
                          rw [List.length_append, List.length_singleton] at hfin
                          exact leaves_dec (n0 := w.heap.size) (g := w.heap.size + 1) (b := b) (s := r3) (o := o) rfl rfl (store6 HP10.out.res) (HP10.out.box.other6 (by omega)) (HR10.out.put6 (by omega) _ _ _ _ _ _) hoj (by omega) (by omega) hfin
                        | none =>
                          have hg4 : res = match takes [44] r2 with | some r => loopL g (o + 1) sort e r (vs.map VD.v ++ [x]) kn | none => .err 21 := by rw [Hg3.out, ht]
                          have Hg4 := Lib.hid hg4
                          have HT := Lib.hid ht
                          clear hg4 ht
                          go_wp2_with fail
                          refine (takes_no b r2 [e] _ W9 HR9.out HT.out).mono ?_
                          rintro e' W10 ⟨rfl, hk10, hr10⟩
                          have HP10 := Lib.hid (HP9.out.turn hbl hk10)
                          have HR10 := Lib.hid hr10
                          clear hk10 hr10 b0
                          have b0 := HP10.out.box.cell 0
                          simp only [List.getElem?_toArray, List.getElem?_cons_zero] at b0
                          cases ht2 : takes [44] r2 with
                          | none =>
                            have hE : res = .err 21 := by rw [Hg4.out, ht2]
                            have HE := Lib.hid hE
                            have HT2 := Lib.hid ht2
                            clear hE ht2
                            go_wp2_with fail
                            refine (takes_no b r2 [44] _ W10 HR10.out HT2.out).mono ?_
                            rintro e' W11 ⟨rfl, hk11, hr11⟩
                            have HP11 := Lib.hid (HP10.out.turn hbl hk11)
                            have HR11 := Lib.hid hr11
                            clear hk11 hr11 b0
                            have q0 := HP11.out.res.cell 0
                            have q1 := HP11.out.res.cell 1
                            have q2 := HP11.out.res.cell 2
                            have q3 := HP11.out.res.cell 3
                            have q4 := HP11.out.res.cell 4
                            have q5 := HP11.out.res.cell 5
                            have g0 := HP11.out.res.free 0
                            have g1 := HP11.out.res.free 1
                            have g2 := HP11.out.res.free 2
                            have g3 := HP11.out.res.free 3
                            have g4 := HP11.out.res.free 4
                            have g5 := HP11.out.res.free 5
                            unfold zeroV at q0 q1 q2 q3 q4 q5
                            simp only [List.getElem?_toArray, List.getElem?_cons_zero, List.getElem?_cons_succ] at q0 q1 q2 q3 q4 q5
                            go_wp2
                            refine leaves_dec (n0 := w.heap.size) (g := w.heap.size + 1) (b := b) (s := r2) (o := ((o : Int) + 1) - 1) rfl rfl (store6 HP11.out.res) (HP11.out.box.other6 (by omega)) ?_ (by omega) (by omega) (by omega) ?_
                            · have := HR11.out.put6 (g := w.heap.size + 1) (by omega) (.int .i64 0) (.bool false) (.int .i64 0) (.string { data := #[] }) (.slice none 0 0) (.slice none 0 0)
                              rw [show ((o : Int) + 1) - 1 + 1 = ((o : Int) + 1) by omega]
                              exact this
                            · exact vaE_err HE.out ((HP11.out.keep.put6 (by omega) _ _ _ _ _ _).open _) ((HR11.out.put6 (by omega) _ _ _ _ _ _).open _) (by omega) (by omega)
                          | some r4 =>
                            have hE : g ≤ f ∧ res = loopL g (o + 1) sort e r4 ((vs ++ [d]).map VD.v) kn := ⟨by have := Hgf.out; omega, by rw [Hg4.out, ht2, List.map_append, List.map_singleton, Hdv.out]⟩
                            have HE := Lib.hid hE
                            have hl4 := takes_len ht2
                            have HT2 := Lib.hid ht2
                            clear hE ht2
                            go_wp2_with fail
                            refine (takes_yes b r2 [44] r4 _ W10 HR10.out HT2.out).mono ?_
                            rintro e' W11 ⟨rfl, hk11, hr11⟩
                            have HP11 := Lib.hid (HP10.out.turn hbl hk11)
                            have HR11 := Lib.hid hr11
                            have Hm : Hid (leftAt W11 b < leftAt wr b) := Lib.hid (by rw [leftAt_of HR11.out, leftAt_of hR.out]; simp only [List.length_singleton] at hl4; omega)
                            have hvl' : (vs ++ [d]).length + r4.length ≤ 1048576 := by rw [List.length_append, List.length_singleton]; simp only [List.length_singleton] at hl4; omega
                            have hkl' : kn.length + r4.length ≤ 1048576 := by omega
                            clear hk11 hr11 b0
                            go_wp2
                            go_roundw
                            case rel => exact ⟨g, r4, vs ++ [d], some ⟨gb, off, none⟩, c5, kn, ka5, kc5, HE, HP11, HR11, hvl', hkl'⟩
                            case measure => exact Hm.out
                      exact AllReadyH.nil
                    refine AllReadyH.cons (i := 9) (o := ⟨none, _, _, _, _, _⟩) rfl (fun K hK => ?_) ?_
                    · go_simp
                      refine hK.out _ _ ?_ (fun hHeld => ?_)
                      · exact hHeld.block (Below.heap_setCell _ ⟨w.heap.size + 2, 4, none⟩ _ xb (by show xb ≠ w.heap.size + 2; have := Hxl2.out; omega))
                      try simp only [Act.put]
                      try simp only [List.setIfInBounds_toArray]
                      try simp only [List.set_cons_succ, List.set_cons_zero]
                      refine wpAnyH_ready (rs := [7]) (by kernel_rfl) (by simp) ?_
                      refine AllReadyH.cons (i := 7) (o := ⟨none, _, _, _, _, _⟩) rfl (fun K hK => ?_) ?_
                      · go_simp
                        refine hK.out _ _ ?_ (fun hHeld => ?_)
                        · exact hHeld.block (put6_other (g := gb) (o := off + vs.length * 6) hxg)
                        try simp only [Act.put]
                        try simp only [List.setIfInBounds_toArray]
                        try simp only [List.set_cons_succ, List.set_cons_zero]
                        refine wpAnyH_done (by kernel_rfl) ?_ _
                        have hP9 := HP7.out.pushVal (w' := put6 w8 gb (off + vs.length * 6) (.int .i64 d.sort) (.bool d.on) (.int .i64 d.n) (.string ⟨d.text.toArray⟩) (.slice d.a d.list.length d.c) (.slice d.ka d.keys.length d.kc)) (x := d) HD7.out (Own.put6 d Hown8.out)
                          (fun j hj h1 h2 => (put6_other (fun e => h2 (by rw [rowOf_pos (by have := Hown8.out.le; omega), e]; rfl))).trans (Hgf8.out.1 j hj h1)) (put6_below Hgf8.out.2.1 (Nat.zero_le _)) Hgf8.out.2.2
                        have hbg : b ≠ gb := by omega
                        have hR9 : RdAt ((put6 w8 gb (off + vs.length * 6) (.int .i64 d.sort) (.bool d.on) (.int .i64 d.n) (.string ⟨d.text.toArray⟩) (.slice d.a d.list.length d.c) (.slice d.ka d.keys.length d.kc)).setCell ⟨w.heap.size + 2, 4, none⟩ (.slice (some ⟨gb, off, none⟩) (vs.length + 1) c5)) b r2 ((o : Int) + 1) :=
                          Blk.other (p := ⟨w.heap.size + 2, 4, none⟩) ((put6_other hbg).trans ((Hgf8.out.1 b (Blk.lt HR7.out) (HP7.out.own.apart (by omega))).trans HR7.out)) (by show b ≠ w.heap.size + 2; omega) _
                        rw [← put6_comm (q := ⟨w.heap.size + 2, 4, none⟩) hgv] at hP9 hR9
                        obtain ⟨W9, hW9⟩ : ∃ W9, W9 = (((((((w8.setCell ⟨w.heap.size + 1 + 1, 4, none⟩ (.slice (some ⟨gb, off, none⟩) (vs.length + 1) c5)).setCell ⟨gb, off + vs.length * 6, none⟩ (.int .i64 d.sort)).setCell ⟨gb, off + vs.length * 6 + 1, none⟩ (.bool d.on)).setCell ⟨gb, off + vs.length * 6 + 2, none⟩ (.int .i64 d.n)).setCell ⟨gb, off + vs.length * 6 + 3, none⟩ (.string ⟨d.text.toArray⟩)).setCell ⟨gb, off + vs.length * 6 + 4, none⟩ (.slice d.a d.list.length d.c)).setCell ⟨gb, off + vs.length * 6 + 5, none⟩ (.slice d.ka d.keys.length d.kc)) := ⟨_, rfl⟩
                        rw [← hW9]
                        have HP9 : Hid (PV w W9 b sort (vs ++ [d]) (some ⟨gb, off, none⟩) c5 kn ka5 kc5) := Lib.hid (by rw [hW9]; exact hP9)
                        have HR9 : Hid (RdAt W9 b r2 ((o : Int) + 1)) := Lib.hid (by rw [hW9]; exact hR9)
                        clear hP9 hR9 hW9 hbg s0 s1 s2 s3 s4 s5 z0 z1 z2 z3 z4 z5 hgb l4 m4 hgv hxg Hown8 Hg8 Hgf8 HX Hxr Hxl Hxs Hxl2 HP7 HR7 HD7 l4'
                        have b0 := HP9.out.box.cell 0
                        simp only [List.getElem?_toArray, List.getElem?_cons_zero] at b0
                        cases ht : takes [e] r2 with
                        | some r3 =>
                          have hE : res = .ok (.mk sort false 0 [] ((vs ++ [d]).map VD.v) kn) r3 := by rw [Hg3.out, ht, List.map_append, List.map_singleton, Hdv.out]
                          have HE := Lib.hid hE
                          have HT := Lib.hid ht
                          clear hE ht
                          go_wp2_with fail
                          refine (takes_yes b r2 [e] r3 _ W9 HR9.out HT.out).mono ?_
                          rintro e' W10 ⟨rfl, hk10, hr10⟩
                          have hp10 := HP9.out.turn hbl hk10
                          have HR10 := Lib.hid hr10
                          have HP10 := Lib.hid hp10
                          have v0 := hp10.blk.cell 0
                          have v1 := hp10.blk.cell 1
                          have v2 := hp10.blk.cell 2
                          have v3 := hp10.blk.cell 3
                          have v4 := hp10.blk.cell 4
                          have v5 := hp10.blk.cell 5
                          simp only [List.getElem?_toArray, List.getElem?_cons_zero, List.getElem?_cons_succ] at v0 v1 v2 v3 v4 v5
                          rw [List.length_append, List.length_singleton] at v4
                          clear hk10 hr10 b0 hp10
                          have q0 := HP10.out.res.cell 0
                          have q1 := HP10.out.res.cell 1
                          have q2 := HP10.out.res.cell 2
                          have q3 := HP10.out.res.cell 3
                          have q4 := HP10.out.res.cell 4
                          have q5 := HP10.out.res.cell 5
                          have g0 := HP10.out.res.free 0
                          have g1 := HP10.out.res.free 1
                          have g2 := HP10.out.res.free 2
                          have g3 := HP10.out.res.free 3
                          have g4 := HP10.out.res.free 4
                          have g5 := HP10.out.res.free 5
                          unfold zeroV at q0 q1 q2 q3 q4 q5
                          simp only [List.getElem?_toArray, List.getElem?_cons_zero, List.getElem?_cons_succ] at q0 q1 q2 q3 q4 q5
                          go_wp2
                          have hfin := vaE_parts (o := o) HE.out HP10.out hbl HR10.out
                          rw [List.length_append, List.length_singleton] at hfin
                          exact leaves_dec (n0 := w.heap.size) (g := w.heap.size + 1) (b := b) (s := r3) (o := o) rfl rfl (store6 HP10.out.res) (HP10.out.box.other6 (by omega)) (HR10.out.put6 (by omega) _ _ _ _ _ _) hoj (by omega) (by omega) hfin
                        | none =>
                          have hg4 : res = match takes [44] r2 with | some r => loopL g (o + 1) sort e r (vs.map VD.v ++ [x]) kn | none => .err 21 := by rw [Hg3.out, ht]
                          have Hg4 := Lib.hid hg4
                          have HT := Lib.hid ht
                          clear hg4 ht
                          go_wp2_with fail
                          refine (takes_no b r2 [e] _ W9 HR9.out HT.out).mono ?_
                          rintro e' W10 ⟨rfl, hk10, hr10⟩
                          have HP10 := Lib.hid (HP9.out.turn hbl hk10)
                          have HR10 := Lib.hid hr10
                          clear hk10 hr10 b0
                          have b0 := HP10.out.box.cell 0
                          simp only [List.getElem?_toArray, List.getElem?_cons_zero] at b0
                          cases ht2 : takes [44] r2 with
                          | none =>
                            have hE : res = .err 21 := by rw [Hg4.out, ht2]
                            have HE := Lib.hid hE
                            have HT2 := Lib.hid ht2
                            clear hE ht2
                            go_wp2_with fail
                            refine (takes_no b r2 [44] _ W10 HR10.out HT2.out).mono ?_
                            rintro e' W11 ⟨rfl, hk11, hr11⟩
                            have HP11 := Lib.hid (HP10.out.turn hbl hk11)
                            have HR11 := Lib.hid hr11
                            clear hk11 hr11 b0
                            have q0 := HP11.out.res.cell 0
                            have q1 := HP11.out.res.cell 1
                            have q2 := HP11.out.res.cell 2
                            have q3 := HP11.out.res.cell 3
                            have q4 := HP11.out.res.cell 4
                            have q5 := HP11.out.res.cell 5
                            have g0 := HP11.out.res.free 0
                            have g1 := HP11.out.res.free 1
                            have g2 := HP11.out.res.free 2
                            have g3 := HP11.out.res.free 3
                            have g4 := HP11.out.res.free 4
                            have g5 := HP11.out.res.free 5
                            unfold zeroV at q0 q1 q2 q3 q4 q5
                            simp only [List.getElem?_toArray, List.getElem?_cons_zero, List.getElem?_cons_succ] at q0 q1 q2 q3 q4 q5
                            go_wp2
                            refine leaves_dec (n0 := w.heap.size) (g := w.heap.size + 1) (b := b) (s := r2) (o := ((o : Int) + 1) - 1) rfl rfl (store6 HP11.out.res) (HP11.out.box.other6 (by omega)) ?_ (by omega) (by omega) (by omega) ?_
                            · have := HR11.out.put6 (g := w.heap.size + 1) (by omega) (.int .i64 0) (.bool false) (.int .i64 0) (.string { data := #[] }) (.slice none 0 0) (.slice none 0 0)
                              rw [show ((o : Int) + 1) - 1 + 1 = ((o : Int) + 1) by omega]
                              exact this
                            · exact vaE_err HE.out ((HP11.out.keep.put6 (by omega) _ _ _ _ _ _).open _) ((HR11.out.put6 (by omega) _ _ _ _ _ _).open _) (by omega) (by omega)
                          | some r4 =>
                            have hE : g ≤ f ∧ res = loopL g (o + 1) sort e r4 ((vs ++ [d]).map VD.v) kn := ⟨by have := Hgf.out; omega, by rw [Hg4.out, ht2, List.map_append, List.map_singleton, Hdv.out]⟩
                            have HE := Lib.hid hE
                            have hl4 := takes_len ht2
                            have HT2 := Lib.hid ht2
                            clear hE ht2
                            go_wp2_with fail
                            refine (takes_yes b r2 [44] r4 _ W10 HR10.out HT2.out).mono ?_
                            rintro e' W11 ⟨rfl, hk11, hr11⟩
                            have HP11 := Lib.hid (HP10.out.turn hbl hk11)
                            have HR11 := Lib.hid hr11
                            have Hm : Hid (leftAt W11 b < leftAt wr b) := Lib.hid (by rw [leftAt_of HR11.out, leftAt_of hR.out]; simp only [List.length_singleton] at hl4; omega)
                            have hvl' : (vs ++ [d]).length + r4.length ≤ 1048576 := by rw [List.length_append, List.length_singleton]; simp only [List.length_singleton] at hl4; omega
                            have hkl' : kn.length + r4.length ≤ 1048576 := by omega
                            clear hk11 hr11 b0
                            go_wp2
                            go_roundw
                            case rel => exact ⟨g, r4, vs ++ [d], some ⟨gb, off, none⟩, c5, kn, ka5, kc5, HE, HP11, HR11, hvl', hkl'⟩
                            case measure => exact Hm.out
                      exact AllReadyH.nil
                    exact AllReadyH.nil
                  exact AllReadyH.nil
                exact AllReadyH.nil
              exact AllReadyH.nil
      · have h5b : (sort == 5) = false := by simpa using hs5
        rw [if_neg hs5] at hq0
        clear hs5
        have hq2 : g ≤ f ∧ res = elemL g (o + 1) sort e t (vs.map VD.v) ks := ⟨by have := hq1.1; omega, hq0⟩
        have hts : t.length ≤ 1048576 := by omega
        clear hq0 hq1
        cases g with
        | zero => exact absurd (by rw [hq2.2]; simp [elemL]) Hne.out
        | succ g =>
          have hg2 := hq2.2
          rw [elemL_step] at hg2
          have hnv : valL g (o + 1) t ≠ .out := fun hv => Hne.out (by rw [hg2, hv])
          have hcall := HV.out g (by have := hq2.1; omega) b t (o + 1) wr (hP.out.keep.glob HG.out hb8) hb8 (by have := hR.out; simpa using this) (by omega) (by omega) hnv
          have Hcall := Lib.hid hcall
          have Hg2 := Lib.hid hg2
          have Hgf : Hid (g + 1 ≤ f) := Lib.hid (by have := hq2.1; omega)
          clear hq2 hg2 hcall hnv
          go_wp2_with fail
          refine Hcall.out.mono ?_
          clear Hcall
          cases hv : valL g (o + 1) t with
          | out => exact absurd (by rw [Hg2.out, hv]) Hne.out
          | err k =>
            rintro e' w6 ⟨d, t6, o6, rfl, hk6, hr6, ho6, ho7⟩
            have HP6 := Lib.hid (hP.out.turn hbl hk6)
            have HR6 := Lib.hid hr6
            have hE : res = .err k := by rw [Hg2.out, hv]
            have HE := Lib.hid hE
            have hk12 := (read_err g).1 _ _ _ hv
            have hkn : (k != 0) = true := by rcases hk12 with rfl | rfl <;> rfl
            have ho8 : (o : Int) + 1 ≤ o6 := by push_cast at ho6; omega
            have ho9 : o6 ≤ (o : Int) + 2 := by push_cast at ho7; omega
            rw [VD.val_eq']
            obtain ⟨w7, hw7⟩ : ∃ w7, w7 = w6.alloc (.cells #[.int .i64 d.sort, .bool d.on, .int .i64 d.n, .string ⟨d.text.toArray⟩, .slice d.a d.list.length d.c, .slice d.ka d.keys.length d.kc] 34) := ⟨_, rfl⟩
            have hb7 : Below w6.heap.size w6 w7 := by rw [hw7]; exact below_a1 _ _
            have HP7 := Lib.hid (HP6.out.ext hbl hb7)
            have HR7 := Lib.hid (HR6.out.ext hb7)
            have Hw7 := Lib.hid hw7
            clear hk6 hr6 hE hv ho6 ho7 hk12 hb7 hw7
            go_upto_region 14 with (fail)
            rw [← Hw7.out]
            clear Hw7
            have q0 := HP7.out.res.cell 0
            have q1 := HP7.out.res.cell 1
            have q2 := HP7.out.res.cell 2
            have q3 := HP7.out.res.cell 3
            have q4 := HP7.out.res.cell 4
            have q5 := HP7.out.res.cell 5
            have g0 := HP7.out.res.free 0
            have g1 := HP7.out.res.free 1
            have g2 := HP7.out.res.free 2
            have g3 := HP7.out.res.free 3
            have g4 := HP7.out.res.free 4
            have g5 := HP7.out.res.free 5
            unfold zeroV at q0 q1 q2 q3 q4 q5
            simp only [List.getElem?_toArray, List.getElem?_cons_zero, List.getElem?_cons_succ] at q0 q1 q2 q3 q4 q5
            go_wp2
            refine leaves_dec (n0 := w.heap.size) (g := w.heap.size + 1) (b := b) (s := t6) (o := o6 - 1) rfl rfl (store6 HP7.out.res) (HP7.out.box.other6 (by omega)) ?_ (by omega) (by omega) (by omega) ?_
            · have := HR7.out.put6 (g := w.heap.size + 1) (by omega) (.int .i64 0) (.bool false) (.int .i64 0) (.string { data := #[] }) (.slice none 0 0) (.slice none 0 0)
              rw [show o6 - 1 + 1 = o6 by omega]
              exact this
            · exact vaE_err HE.out ((HP7.out.keep.put6 (by omega) _ _ _ _ _ _).open _) ((HR7.out.put6 (by omega) _ _ _ _ _ _).open _) (by omega) (by omega)
          | ok x r2 =>
            rintro e' w6 ⟨d, rfl, hdv, hda, hk6, hr6⟩
            rw [VD.val_eq']
            have hp6 := hP.out.turn hbl hk6
            have hg3 : res = (match takes [e] r2 with | some r => .ok (.mk sort false 0 [] (vs.map VD.v ++ [x]) ks) r | none => match takes [44] r2 with | some r => loopL g (o + 1) sort e r (vs.map VD.v ++ [x]) ks | none => .err 21) := by rw [Hg2.out, hv]; rfl
            have hlen6 := (read_len g).1 _ _ _ _ hv
            have hr6' : RdAt w6 b r2 ((o : Int) + 1) := by simpa using hr6
            have hfr : ∀ k, wr.heap.size ≤ k → w.heap.size + 3 ≤ k ∧ rowOf la lc ≠ some k ∧ rowOf ka kc ≠ some k := fun k hk => ⟨by have := hP.out.blk.lt; omega, fun e => own_new hP.out.own hk e.symm, fun e => own_new hP.out.kown hk e.symm⟩
            have hda2 := hda.mono (q := fun k => w.heap.size + 3 ≤ k ∧ rowOf la lc ≠ some k ∧ rowOf ka kc ≠ some k) fun k hk _ => hfr k hk
            have Hdv := Lib.hid hdv
            have Hg3 := Lib.hid hg3
            have hls6 := hp6.blk.lt
            obtain ⟨w7, hw7⟩ : ∃ w7, w7 = w6.alloc (.cells #[.int .i64 d.sort, .bool d.on, .int .i64 d.n, .string ⟨d.text.toArray⟩, .slice d.a d.list.length d.c, .slice d.ka d.keys.length d.kc] 34) := ⟨_, rfl⟩
            have hb7 : Below w6.heap.size w6 w7 := by rw [hw7]; exact below_a1 _ _
            have hs7 : w7.heap.size = w6.heap.size + 1 := by rw [hw7]; simp
            obtain ⟨xb, hxb⟩ : ∃ xb, xb = w6.heap.size := ⟨_, rfl⟩
            have hx7 : Six w7 xb d := by
              have hbx : Blk w7 w6.heap.size #[.int .i64 d.sort, .bool d.on, .int .i64 d.n, .string ⟨d.text.toArray⟩, .slice d.a d.list.length d.c, .slice d.ka d.keys.length d.kc] 34 := by rw [hw7]; exact Blk.new rfl
              rw [hxb]
              exact ⟨hbx.cell 0, hbx.cell 1, hbx.cell 2, hbx.cell 3, hbx.cell 4, hbx.cell 5⟩
            have HX := Lib.hid hx7
            have HP7 := Lib.hid (hp6.ext hbl hb7)
            have HR7 := Lib.hid (hr6'.ext hb7)
            have HD7 := Lib.hid (hda2.ext hb7)
            have Hxr : Hid (some xb ≠ rowOf la lc) := Lib.hid (by rw [hxb]; exact own_new hp6.own (Nat.le_refl _))
            have Hxl : Hid (xb < w7.heap.size) := Lib.hid (by omega)
            have Hxs : Hid (xb < w7.heap.size) := Lib.hid (by omega)
            have Hxl2 : Hid (w.heap.size + 2 < xb) := Lib.hid (by omega)
            have hcap := hp6.own.le
            have hw73 : w.heap.size + 3 ≤ w7.heap.size := by omega
            have hvl : vs.length + r2.length ≤ 1048576 := by omega
            have hkl : ks.length + r2.length ≤ 1048576 := by omega
            have l4' := HP7.out.blk.cell 4
            simp only [List.getElem?_toArray, List.getElem?_cons_zero, List.getElem?_cons_succ] at l4'
            have Hw7 := Lib.hid hw7
            have Hxb := Lib.hid hxb
            clear hk6 hr6 hr6' hp6 hg3 hdv hda hda2 hv hfr hb7 hs7 hx7 hls6 hw7 hxb
            go_upto_region 16 with (fail)
            rw [← Hw7.out, ← Hxb.out]
            clear Hw7 Hxb
            refine wp_region_held_drew (S := fun w' => Six w' xb d) (by kernel_rfl) ?_ (fun hHeld => ?_)
            · exact HX.out
            refine wpAnyH_take (i := 0) (oi := ⟨some 55, _, _, _, _, _⟩) (v := ?_) rfl (by kernel_rfl) (by kernel_rfl) (by kernel_rfl) (fun _ _ _ h => h) (Or.inl ⟨by rfl, ?_⟩) (by assumption) ?_; rotate_left; focus (intro w hSw; (try dsimp only at hSw); first | (go_simp; done) | (go_simp; with_reducible rfl))
            try simp only [Act.put]
            try simp only [List.setIfInBounds_toArray]
            try simp only [List.set_cons_succ, List.set_cons_zero]
            refine wpAnyH_take (i := 2) (oi := ⟨some 57, _, _, _, _, _⟩) (v := ?_) rfl (by kernel_rfl) (by kernel_rfl) (by kernel_rfl) (fun _ _ _ h => h) (Or.inl ⟨by rfl, ?_⟩) (by assumption) ?_; rotate_left; focus (intro w hSw; (try dsimp only at hSw); (obtain ⟨y0, y1, y2, y3, y4, y5⟩ := hSw; first | (go_simp; done) | (go_simp; with_reducible rfl)))
            try simp only [Act.put]
            try simp only [List.setIfInBounds_toArray]
            try simp only [List.set_cons_succ, List.set_cons_zero]
            refine wpAnyH_ready (rs := [1, 4]) (by kernel_rfl) (by simp) ?_
            refine AllReadyH.cons (i := 1) (o := ⟨some 56, _, _, _, _, _⟩) rfl (fun K hK => ?_) ?_
            · go_simp
              refine hK.out _ _ ?_ (fun hHeld => ?_)
              · exact hHeld
              try simp only [Act.put]
              try simp only [List.setIfInBounds_toArray]
              try simp only [List.set_cons_succ, List.set_cons_zero]
              refine wpAnyH_take (i := 3) (oi := ⟨some 58, _, _, _, _, _⟩) (v := ?_) rfl (by kernel_rfl) (by kernel_rfl) (by kernel_rfl) (fun _ _ _ h => h) (Or.inl ⟨by rfl, ?_⟩) (by assumption) ?_; rotate_left; focus (intro w hSw; (try dsimp only at hSw); first | (go_simp; done) | (go_simp; with_reducible rfl))
              try simp only [Act.put]
              try simp only [List.setIfInBounds_toArray]
              try simp only [List.set_cons_succ, List.set_cons_zero]
              refine wpAnyH_ready (rs := [4]) (by kernel_rfl) (by simp) ?_
              refine AllReadyH.cons (i := 4) (o := ⟨some 59, _, _, _, _, _⟩) rfl (fun K hK => ?_) ?_
              · go_simp
                refine hK.out _ _ ?_ (fun hHeld => ?_)
                · exact hHeld.ext (below_a1 _ _)
                try simp only [Act.put]
                try simp only [List.setIfInBounds_toArray]
                try simp only [List.set_cons_succ, List.set_cons_zero]
                refine wpAnyH_ready (rs := [5]) (by kernel_rfl) (by simp) ?_
                refine AllReadyH.cons (i := 5) (o := ⟨some 60, _, _, _, _, _⟩) rfl (fun K hK => ?_) ?_
                · refine step_append_Own rfl (.tmp 56) (.tmp 59) 32 rfl (w.heap.size + 3) 34 _ 6 88 Tryz.underlying32 Tryz.infoVal rfl (by decide) la vs.length lc _ (by simp [go_sem]) (by exact HP7.out.own.alloc _) _ 1 1 [.int .i64 0, .bool false, .int .i64 0, .string { data := #[] }, .slice none 0 0, .slice none 0 0] (by simp [go_sem]; rfl) (by exact Row.new1 (by simp) rfl rfl) (by intro u hu; simp at hu; rcases hu with rfl | rfl | rfl | rfl | rfl | rfl <;> rfl) (by unfold maxLen; omega) (by omega) (by simp; omega) ?_
                  intro a5 c5 w8 hown8 hg8 hbk8
                  obtain ⟨gb, off, rfl⟩ := hown8.addr (by have := hown8.le; omega)
                  obtain ⟨⟨s0, s1, s2, s3, s4, s5⟩, ⟨z0, z1, z2, z3, z4, z5⟩, hgb⟩ := hown8.slots6
                  have hv8 : Blk w8 (w.heap.size + 2) #[.int .i64 sort, .bool false, .int .i64 0, .string { data := #[] }, .slice la vs.length lc, .slice ka ks.length kc] 34 := by
                    first
                      | exact Blk.grown (Blk.drew (Blk.alloc HP7.out.blk _)) hg8 (HP7.out.own.apart (by omega))
                      | exact Blk.grown (Blk.alloc HP7.out.blk _) hg8 (HP7.out.own.apart (by omega))
                      | exact Blk.grown (Blk.alloc (Blk.drew HP7.out.blk) _) hg8 (HP7.out.own.apart (by omega))
                  have l4 := hv8.cell 4
                  have m4 := hv8.free 4
                  simp only [List.getElem?_toArray, List.getElem?_cons_zero, List.getElem?_cons_succ] at l4
                  have hgv : gb ≠ w.heap.size + 2 := by omega
                  have hxg : xb ≠ gb := by
                    intro he
                    have hr8 : rowOf (some ⟨gb, off, none⟩) c5 = some gb := by rw [rowOf_pos (by have := hown8.le; omega)]; rfl
                    rcases hbk8 with h | h
                    · exact Hxr.out (by rw [← h, hr8, he])
                    · rw [hr8] at h; injection h with h; have := Hxs.out; simp at h; omega
                  have hgf := grown_from (w7 := w7) (by first | exact below_a1 w7 _ | exact (below_a1 w7 _).drew | exact (Below.refl _ w7).drew.alloc (Nat.le_refl _) _) hg8 hbk8
                  have Hown8 := Lib.hid hown8
                  have Hg8 := Lib.hid hg8
                  have Hgf8 := Lib.hid hgf
                  clear hown8 hg8 hbk8 hv8 hgf
                  refine hK.out _ _ ?_ (fun hHeld => ?_)
                  · exact (hHeld).block (Hg8.out.block xb (by have := Hxl.out; simp; omega) Hxr.out)
                  try simp only [Act.put]
                  try simp only [List.setIfInBounds_toArray]
                  try simp only [List.set_cons_succ, List.set_cons_zero]
                  refine wpAnyH_take (i := 6) (oi := ⟨some 61, _, _, _, _, _⟩) (v := ?_) rfl (by kernel_rfl) (by kernel_rfl) (by kernel_rfl) (fun _ _ _ h => h) (Or.inl ⟨by rfl, ?_⟩) (by assumption) ?_; rotate_left; focus (intro w hSw; (try dsimp only at hSw); (have hlt1 : ((vs.length : Int) < (vs.length : Int) + 1) = True := eq_true (by omega); first | (go_simp; done) | (go_simp; with_reducible rfl)))
                  try simp only [Act.put]
                  try simp only [List.setIfInBounds_toArray]
                  try simp only [List.set_cons_succ, List.set_cons_zero]
                  refine wpAnyH_take (i := 8) (oi := ⟨some 62, _, _, _, _, _⟩) (v := ?_) rfl (by kernel_rfl) (by kernel_rfl) (by kernel_rfl) (fun _ _ _ h => h) (Or.inl ⟨by rfl, ?_⟩) (by assumption) ?_; rotate_left; focus (intro w hSw; (try dsimp only at hSw); first | (go_simp; done) | (go_simp; with_reducible rfl))
                  try simp only [Act.put]
                  try simp only [List.setIfInBounds_toArray]
                  try simp only [List.set_cons_succ, List.set_cons_zero]
                  refine wpAnyH_ready (rs := [7, 9]) (by kernel_rfl) (by simp) ?_
                  refine AllReadyH.cons (i := 7) (o := ⟨none, _, _, _, _, _⟩) rfl (fun K hK => ?_) ?_
                  · go_simp
                    refine hK.out _ _ ?_ (fun hHeld => ?_)
                    · exact hHeld.block (put6_other (g := gb) (o := off + vs.length * 6) hxg)
                    try simp only [Act.put]
                    try simp only [List.setIfInBounds_toArray]
                    try simp only [List.set_cons_succ, List.set_cons_zero]
                    refine wpAnyH_ready (rs := [9]) (by kernel_rfl) (by simp) ?_
                    refine AllReadyH.cons (i := 9) (o := ⟨none, _, _, _, _, _⟩) rfl (fun K hK => ?_) ?_
                    · go_simp
                      refine hK.out _ _ ?_ (fun hHeld => ?_)
                      · exact hHeld.block (Below.heap_setCell _ ⟨w.heap.size + 2, 4, none⟩ _ xb (by show xb ≠ w.heap.size + 2; have := Hxl2.out; omega))
                      try simp only [Act.put]
                      try simp only [List.setIfInBounds_toArray]
                      try simp only [List.set_cons_succ, List.set_cons_zero]
                      refine wpAnyH_done (by kernel_rfl) ?_ _
                      have hP9 := HP7.out.pushVal (w' := put6 w8 gb (off + vs.length * 6) (.int .i64 d.sort) (.bool d.on) (.int .i64 d.n) (.string ⟨d.text.toArray⟩) (.slice d.a d.list.length d.c) (.slice d.ka d.keys.length d.kc)) (x := d) HD7.out (Own.put6 d Hown8.out)
                        (fun j hj h1 h2 => (put6_other (fun e => h2 (by rw [rowOf_pos (by have := Hown8.out.le; omega), e]; rfl))).trans (Hgf8.out.1 j hj h1)) (put6_below Hgf8.out.2.1 (Nat.zero_le _)) Hgf8.out.2.2
                      have hbg : b ≠ gb := by omega
                      have hR9 : RdAt ((put6 w8 gb (off + vs.length * 6) (.int .i64 d.sort) (.bool d.on) (.int .i64 d.n) (.string ⟨d.text.toArray⟩) (.slice d.a d.list.length d.c) (.slice d.ka d.keys.length d.kc)).setCell ⟨w.heap.size + 2, 4, none⟩ (.slice (some ⟨gb, off, none⟩) (vs.length + 1) c5)) b r2 ((o : Int) + 1) :=
                        Blk.other (p := ⟨w.heap.size + 2, 4, none⟩) ((put6_other hbg).trans ((Hgf8.out.1 b (Blk.lt HR7.out) (HP7.out.own.apart (by omega))).trans HR7.out)) (by show b ≠ w.heap.size + 2; omega) _
                      obtain ⟨W9, hW9⟩ : ∃ W9, W9 = (((((((w8.setCell ⟨gb, off + vs.length * 6, none⟩ (.int .i64 d.sort)).setCell ⟨gb, off + vs.length * 6 + 1, none⟩ (.bool d.on)).setCell ⟨gb, off + vs.length * 6 + 2, none⟩ (.int .i64 d.n)).setCell ⟨gb, off + vs.length * 6 + 3, none⟩ (.string ⟨d.text.toArray⟩)).setCell ⟨gb, off + vs.length * 6 + 4, none⟩ (.slice d.a d.list.length d.c)).setCell ⟨gb, off + vs.length * 6 + 5, none⟩ (.slice d.ka d.keys.length d.kc)).setCell ⟨w.heap.size + 1 + 1, 4, none⟩ (.slice (some ⟨gb, off, none⟩) (vs.length + 1) c5)) := ⟨_, rfl⟩
                      rw [← hW9]
                      have HP9 : Hid (PV w W9 b sort (vs ++ [d]) (some ⟨gb, off, none⟩) c5 ks ka kc) := Lib.hid (by rw [hW9]; exact hP9)
                      have HR9 : Hid (RdAt W9 b r2 ((o : Int) + 1)) := Lib.hid (by rw [hW9]; exact hR9)
                      clear hP9 hR9 hW9 hbg s0 s1 s2 s3 s4 s5 z0 z1 z2 z3 z4 z5 hgb l4 m4 hgv hxg Hown8 Hg8 Hgf8 HX Hxr Hxl Hxs Hxl2 HP7 HR7 HD7 l4'
                      have b0 := HP9.out.box.cell 0
                      simp only [List.getElem?_toArray, List.getElem?_cons_zero] at b0
                      cases ht : takes [e] r2 with
                      | some r3 =>
                        have hE : res = .ok (.mk sort false 0 [] ((vs ++ [d]).map VD.v) ks) r3 := by rw [Hg3.out, ht, List.map_append, List.map_singleton, Hdv.out]
                        have HE := Lib.hid hE
                        have HT := Lib.hid ht
                        clear hE ht
                        go_wp2_with fail
                        refine (takes_yes b r2 [e] r3 _ W9 HR9.out HT.out).mono ?_
                        rintro e' W10 ⟨rfl, hk10, hr10⟩
                        have hp10 := HP9.out.turn hbl hk10
                        have HR10 := Lib.hid hr10
                        have HP10 := Lib.hid hp10
                        have v0 := hp10.blk.cell 0
                        have v1 := hp10.blk.cell 1
                        have v2 := hp10.blk.cell 2
                        have v3 := hp10.blk.cell 3
                        have v4 := hp10.blk.cell 4
                        have v5 := hp10.blk.cell 5
                        simp only [List.getElem?_toArray, List.getElem?_cons_zero, List.getElem?_cons_succ] at v0 v1 v2 v3 v4 v5
                        rw [List.length_append, List.length_singleton] at v4
                        clear hk10 hr10 b0 hp10
                        have q0 := HP10.out.res.cell 0
                        have q1 := HP10.out.res.cell 1
                        have q2 := HP10.out.res.cell 2
                        have q3 := HP10.out.res.cell 3
                        have q4 := HP10.out.res.cell 4
                        have q5 := HP10.out.res.cell 5
                        have g0 := HP10.out.res.free 0
                        have g1 := HP10.out.res.free 1
                        have g2 := HP10.out.res.free 2
                        have g3 := HP10.out.res.free 3
                        have g4 := HP10.out.res.free 4
                        have g5 := HP10.out.res.free 5
                        unfold zeroV at q0 q1 q2 q3 q4 q5
                        simp only [List.getElem?_toArray, List.getElem?_cons_zero, List.getElem?_cons_succ] at q0 q1 q2 q3 q4 q5
                        go_wp2
                        have hfin := vaE_parts (o := o) HE.out HP10.out hbl HR10.out
                        rw [List.length_append, List.length_singleton] at hfin
                        exact leaves_dec (n0 := w.heap.size) (g := w.heap.size + 1) (b := b) (s := r3) (o := o) rfl rfl (store6 HP10.out.res) (HP10.out.box.other6 (by omega)) (HR10.out.put6 (by omega) _ _ _ _ _ _) hoj (by omega) (by omega) hfin
                      | none =>
                        have hg4 : res = match takes [44] r2 with | some r => loopL g (o + 1) sort e r (vs.map VD.v ++ [x]) ks | none => .err 21 := by rw [Hg3.out, ht]
                        have Hg4 := Lib.hid hg4
                        have HT := Lib.hid ht
                        clear hg4 ht
                        go_wp2_with fail
                        refine (takes_no b r2 [e] _ W9 HR9.out HT.out).mono ?_
                        rintro e' W10 ⟨rfl, hk10, hr10⟩
                        have HP10 := Lib.hid (HP9.out.turn hbl hk10)
                        have HR10 := Lib.hid hr10
                        clear hk10 hr10 b0
                        have b0 := HP10.out.box.cell 0
                        simp only [List.getElem?_toArray, List.getElem?_cons_zero] at b0
                        cases ht2 : takes [44] r2 with
                        | none =>
                          have hE : res = .err 21 := by rw [Hg4.out, ht2]
                          have HE := Lib.hid hE
                          have HT2 := Lib.hid ht2
                          clear hE ht2
                          go_wp2_with fail
                          refine (takes_no b r2 [44] _ W10 HR10.out HT2.out).mono ?_
                          rintro e' W11 ⟨rfl, hk11, hr11⟩
                          have HP11 := Lib.hid (HP10.out.turn hbl hk11)
                          have HR11 := Lib.hid hr11
                          clear hk11 hr11 b0
                          have q0 := HP11.out.res.cell 0
                          have q1 := HP11.out.res.cell 1
                          have q2 := HP11.out.res.cell 2
                          have q3 := HP11.out.res.cell 3
                          have q4 := HP11.out.res.cell 4
                          have q5 := HP11.out.res.cell 5
                          have g0 := HP11.out.res.free 0
                          have g1 := HP11.out.res.free 1
                          have g2 := HP11.out.res.free 2
                          have g3 := HP11.out.res.free 3
                          have g4 := HP11.out.res.free 4
                          have g5 := HP11.out.res.free 5
                          unfold zeroV at q0 q1 q2 q3 q4 q5
                          simp only [List.getElem?_toArray, List.getElem?_cons_zero, List.getElem?_cons_succ] at q0 q1 q2 q3 q4 q5
                          go_wp2
                          refine leaves_dec (n0 := w.heap.size) (g := w.heap.size + 1) (b := b) (s := r2) (o := ((o : Int) + 1) - 1) rfl rfl (store6 HP11.out.res) (HP11.out.box.other6 (by omega)) ?_ (by omega) (by omega) (by omega) ?_
                          · have := HR11.out.put6 (g := w.heap.size + 1) (by omega) (.int .i64 0) (.bool false) (.int .i64 0) (.string { data := #[] }) (.slice none 0 0) (.slice none 0 0)
                            rw [show ((o : Int) + 1) - 1 + 1 = ((o : Int) + 1) by omega]
                            exact this
                          · exact vaE_err HE.out ((HP11.out.keep.put6 (by omega) _ _ _ _ _ _).open _) ((HR11.out.put6 (by omega) _ _ _ _ _ _).open _) (by omega) (by omega)
                        | some r4 =>
                          have hE : g ≤ f ∧ res = loopL g (o + 1) sort e r4 ((vs ++ [d]).map VD.v) ks := ⟨by have := Hgf.out; omega, by rw [Hg4.out, ht2, List.map_append, List.map_singleton, Hdv.out]⟩
                          have HE := Lib.hid hE
                          have hl4 := takes_len ht2
                          have HT2 := Lib.hid ht2
                          clear hE ht2
                          go_wp2_with fail
                          refine (takes_yes b r2 [44] r4 _ W10 HR10.out HT2.out).mono ?_
                          rintro e' W11 ⟨rfl, hk11, hr11⟩
                          have HP11 := Lib.hid (HP10.out.turn hbl hk11)
                          have HR11 := Lib.hid hr11
                          have Hm : Hid (leftAt W11 b < leftAt wr b) := Lib.hid (by rw [leftAt_of HR11.out, leftAt_of hR.out]; simp only [List.length_singleton] at hl4; omega)
                          have hvl' : (vs ++ [d]).length + r4.length ≤ 1048576 := by rw [List.length_append, List.length_singleton]; simp only [List.length_singleton] at hl4; omega
                          have hkl' : ks.length + r4.length ≤ 1048576 := by omega
                          clear hk11 hr11 b0
                          go_wp2
                          go_roundw
                          case rel => exact ⟨g, r4, vs ++ [d], some ⟨gb, off, none⟩, c5, ks, ka, kc, HE, HP11, HR11, hvl', hkl'⟩
                          case measure => exact Hm.out
                    exact AllReadyH.nil
                  refine AllReadyH.cons (i := 9) (o := ⟨none, _, _, _, _, _⟩) rfl (fun K hK => ?_) ?_
                  · go_simp
                    refine hK.out _ _ ?_ (fun hHeld => ?_)
                    · exact hHeld.block (Below.heap_setCell _ ⟨w.heap.size + 2, 4, none⟩ _ xb (by show xb ≠ w.heap.size + 2; have := Hxl2.out; omega))
                    try simp only [Act.put]
                    try simp only [List.setIfInBounds_toArray]
                    try simp only [List.set_cons_succ, List.set_cons_zero]
                    refine wpAnyH_ready (rs := [7]) (by kernel_rfl) (by simp) ?_
                    refine AllReadyH.cons (i := 7) (o := ⟨none, _, _, _, _, _⟩) rfl (fun K hK => ?_) ?_
                    · go_simp
                      refine hK.out _ _ ?_ (fun hHeld => ?_)
                      · exact hHeld.block (put6_other (g := gb) (o := off + vs.length * 6) hxg)
                      try simp only [Act.put]
                      try simp only [List.setIfInBounds_toArray]
                      try simp only [List.set_cons_succ, List.set_cons_zero]
                      refine wpAnyH_done (by kernel_rfl) ?_ _
                      have hP9 := HP7.out.pushVal (w' := put6 w8 gb (off + vs.length * 6) (.int .i64 d.sort) (.bool d.on) (.int .i64 d.n) (.string ⟨d.text.toArray⟩) (.slice d.a d.list.length d.c) (.slice d.ka d.keys.length d.kc)) (x := d) HD7.out (Own.put6 d Hown8.out)
                        (fun j hj h1 h2 => (put6_other (fun e => h2 (by rw [rowOf_pos (by have := Hown8.out.le; omega), e]; rfl))).trans (Hgf8.out.1 j hj h1)) (put6_below Hgf8.out.2.1 (Nat.zero_le _)) Hgf8.out.2.2
                      have hbg : b ≠ gb := by omega
                      have hR9 : RdAt ((put6 w8 gb (off + vs.length * 6) (.int .i64 d.sort) (.bool d.on) (.int .i64 d.n) (.string ⟨d.text.toArray⟩) (.slice d.a d.list.length d.c) (.slice d.ka d.keys.length d.kc)).setCell ⟨w.heap.size + 2, 4, none⟩ (.slice (some ⟨gb, off, none⟩) (vs.length + 1) c5)) b r2 ((o : Int) + 1) :=
                        Blk.other (p := ⟨w.heap.size + 2, 4, none⟩) ((put6_other hbg).trans ((Hgf8.out.1 b (Blk.lt HR7.out) (HP7.out.own.apart (by omega))).trans HR7.out)) (by show b ≠ w.heap.size + 2; omega) _
                      rw [← put6_comm (q := ⟨w.heap.size + 2, 4, none⟩) hgv] at hP9 hR9
                      obtain ⟨W9, hW9⟩ : ∃ W9, W9 = (((((((w8.setCell ⟨w.heap.size + 1 + 1, 4, none⟩ (.slice (some ⟨gb, off, none⟩) (vs.length + 1) c5)).setCell ⟨gb, off + vs.length * 6, none⟩ (.int .i64 d.sort)).setCell ⟨gb, off + vs.length * 6 + 1, none⟩ (.bool d.on)).setCell ⟨gb, off + vs.length * 6 + 2, none⟩ (.int .i64 d.n)).setCell ⟨gb, off + vs.length * 6 + 3, none⟩ (.string ⟨d.text.toArray⟩)).setCell ⟨gb, off + vs.length * 6 + 4, none⟩ (.slice d.a d.list.length d.c)).setCell ⟨gb, off + vs.length * 6 + 5, none⟩ (.slice d.ka d.keys.length d.kc)) := ⟨_, rfl⟩
                      rw [← hW9]
                      have HP9 : Hid (PV w W9 b sort (vs ++ [d]) (some ⟨gb, off, none⟩) c5 ks ka kc) := Lib.hid (by rw [hW9]; exact hP9)
                      have HR9 : Hid (RdAt W9 b r2 ((o : Int) + 1)) := Lib.hid (by rw [hW9]; exact hR9)
                      clear hP9 hR9 hW9 hbg s0 s1 s2 s3 s4 s5 z0 z1 z2 z3 z4 z5 hgb l4 m4 hgv hxg Hown8 Hg8 Hgf8 HX Hxr Hxl Hxs Hxl2 HP7 HR7 HD7 l4'
                      have b0 := HP9.out.box.cell 0
                      simp only [List.getElem?_toArray, List.getElem?_cons_zero] at b0
                      cases ht : takes [e] r2 with
                      | some r3 =>
                        have hE : res = .ok (.mk sort false 0 [] ((vs ++ [d]).map VD.v) ks) r3 := by rw [Hg3.out, ht, List.map_append, List.map_singleton, Hdv.out]
                        have HE := Lib.hid hE
                        have HT := Lib.hid ht
                        clear hE ht
                        go_wp2_with fail
                        refine (takes_yes b r2 [e] r3 _ W9 HR9.out HT.out).mono ?_
                        rintro e' W10 ⟨rfl, hk10, hr10⟩
                        have hp10 := HP9.out.turn hbl hk10
                        have HR10 := Lib.hid hr10
                        have HP10 := Lib.hid hp10
                        have v0 := hp10.blk.cell 0
                        have v1 := hp10.blk.cell 1
                        have v2 := hp10.blk.cell 2
                        have v3 := hp10.blk.cell 3
                        have v4 := hp10.blk.cell 4
                        have v5 := hp10.blk.cell 5
                        simp only [List.getElem?_toArray, List.getElem?_cons_zero, List.getElem?_cons_succ] at v0 v1 v2 v3 v4 v5
                        rw [List.length_append, List.length_singleton] at v4
                        clear hk10 hr10 b0 hp10
                        have q0 := HP10.out.res.cell 0
                        have q1 := HP10.out.res.cell 1
                        have q2 := HP10.out.res.cell 2
                        have q3 := HP10.out.res.cell 3
                        have q4 := HP10.out.res.cell 4
                        have q5 := HP10.out.res.cell 5
                        have g0 := HP10.out.res.free 0
                        have g1 := HP10.out.res.free 1
                        have g2 := HP10.out.res.free 2
                        have g3 := HP10.out.res.free 3
                        have g4 := HP10.out.res.free 4
                        have g5 := HP10.out.res.free 5
                        unfold zeroV at q0 q1 q2 q3 q4 q5
                        simp only [List.getElem?_toArray, List.getElem?_cons_zero, List.getElem?_cons_succ] at q0 q1 q2 q3 q4 q5
                        go_wp2
                        have hfin := vaE_parts (o := o) HE.out HP10.out hbl HR10.out
                        rw [List.length_append, List.length_singleton] at hfin
                        exact leaves_dec (n0 := w.heap.size) (g := w.heap.size + 1) (b := b) (s := r3) (o := o) rfl rfl (store6 HP10.out.res) (HP10.out.box.other6 (by omega)) (HR10.out.put6 (by omega) _ _ _ _ _ _) hoj (by omega) (by omega) hfin
                      | none =>
                        have hg4 : res = match takes [44] r2 with | some r => loopL g (o + 1) sort e r (vs.map VD.v ++ [x]) ks | none => .err 21 := by rw [Hg3.out, ht]
                        have Hg4 := Lib.hid hg4
                        have HT := Lib.hid ht
                        clear hg4 ht
                        go_wp2_with fail
                        refine (takes_no b r2 [e] _ W9 HR9.out HT.out).mono ?_
                        rintro e' W10 ⟨rfl, hk10, hr10⟩
                        have HP10 := Lib.hid (HP9.out.turn hbl hk10)
                        have HR10 := Lib.hid hr10
                        clear hk10 hr10 b0
                        have b0 := HP10.out.box.cell 0
                        simp only [List.getElem?_toArray, List.getElem?_cons_zero] at b0
                        cases ht2 : takes [44] r2 with
                        | none =>
                          have hE : res = .err 21 := by rw [Hg4.out, ht2]
                          have HE := Lib.hid hE
                          have HT2 := Lib.hid ht2
                          clear hE ht2
                          go_wp2_with fail
                          refine (takes_no b r2 [44] _ W10 HR10.out HT2.out).mono ?_
                          rintro e' W11 ⟨rfl, hk11, hr11⟩
                          have HP11 := Lib.hid (HP10.out.turn hbl hk11)
                          have HR11 := Lib.hid hr11
                          clear hk11 hr11 b0
                          have q0 := HP11.out.res.cell 0
                          have q1 := HP11.out.res.cell 1
                          have q2 := HP11.out.res.cell 2
                          have q3 := HP11.out.res.cell 3
                          have q4 := HP11.out.res.cell 4
                          have q5 := HP11.out.res.cell 5
                          have g0 := HP11.out.res.free 0
                          have g1 := HP11.out.res.free 1
                          have g2 := HP11.out.res.free 2
                          have g3 := HP11.out.res.free 3
                          have g4 := HP11.out.res.free 4
                          have g5 := HP11.out.res.free 5
                          unfold zeroV at q0 q1 q2 q3 q4 q5
                          simp only [List.getElem?_toArray, List.getElem?_cons_zero, List.getElem?_cons_succ] at q0 q1 q2 q3 q4 q5
                          go_wp2
                          refine leaves_dec (n0 := w.heap.size) (g := w.heap.size + 1) (b := b) (s := r2) (o := ((o : Int) + 1) - 1) rfl rfl (store6 HP11.out.res) (HP11.out.box.other6 (by omega)) ?_ (by omega) (by omega) (by omega) ?_
                          · have := HR11.out.put6 (g := w.heap.size + 1) (by omega) (.int .i64 0) (.bool false) (.int .i64 0) (.string { data := #[] }) (.slice none 0 0) (.slice none 0 0)
                            rw [show ((o : Int) + 1) - 1 + 1 = ((o : Int) + 1) by omega]
                            exact this
                          · exact vaE_err HE.out ((HP11.out.keep.put6 (by omega) _ _ _ _ _ _).open _) ((HR11.out.put6 (by omega) _ _ _ _ _ _).open _) (by omega) (by omega)
                        | some r4 =>
                          have hE : g ≤ f ∧ res = loopL g (o + 1) sort e r4 ((vs ++ [d]).map VD.v) ks := ⟨by have := Hgf.out; omega, by rw [Hg4.out, ht2, List.map_append, List.map_singleton, Hdv.out]⟩
                          have HE := Lib.hid hE
                          have hl4 := takes_len ht2
                          have HT2 := Lib.hid ht2
                          clear hE ht2
                          go_wp2_with fail
                          refine (takes_yes b r2 [44] r4 _ W10 HR10.out HT2.out).mono ?_
                          rintro e' W11 ⟨rfl, hk11, hr11⟩
                          have HP11 := Lib.hid (HP10.out.turn hbl hk11)
                          have HR11 := Lib.hid hr11
                          have Hm : Hid (leftAt W11 b < leftAt wr b) := Lib.hid (by rw [leftAt_of HR11.out, leftAt_of hR.out]; simp only [List.length_singleton] at hl4; omega)
                          have hvl' : (vs ++ [d]).length + r4.length ≤ 1048576 := by rw [List.length_append, List.length_singleton]; simp only [List.length_singleton] at hl4; omega
                          have hkl' : ks.length + r4.length ≤ 1048576 := by omega
                          clear hk11 hr11 b0
                          go_wp2
                          go_roundw
                          case rel => exact ⟨g, r4, vs ++ [d], some ⟨gb, off, none⟩, c5, ks, ka, kc, HE, HP11, HR11, hvl', hkl'⟩
                          case measure => exact Hm.out
                    exact AllReadyH.nil
                  exact AllReadyH.nil
                exact AllReadyH.nil
              exact AllReadyH.nil
            refine AllReadyH.cons (i := 4) (o := ⟨some 59, _, _, _, _, _⟩) rfl (fun K hK => ?_) ?_
            · go_simp
              refine hK.out _ _ ?_ (fun hHeld => ?_)
              · exact hHeld.ext (below_a1 _ _)
              try simp only [Act.put]
              try simp only [List.setIfInBounds_toArray]
              try simp only [List.set_cons_succ, List.set_cons_zero]
              refine wpAnyH_ready (rs := [1]) (by kernel_rfl) (by simp) ?_
              refine AllReadyH.cons (i := 1) (o := ⟨some 56, _, _, _, _, _⟩) rfl (fun K hK => ?_) ?_
              · have l4b : (w7.alloc (.cells #[.int .i64 0, .bool false, .int .i64 0, .string { data := #[] }, .slice none 0 0, .slice none 0 0] 34)).cell? ⟨w.heap.size + 2, 4, none⟩ = some (.slice la vs.length lc) := below_ext (below_a1 w7 _) l4'
                have l4c : (w7.drew.alloc (.cells #[.int .i64 0, .bool false, .int .i64 0, .string { data := #[] }, .slice none 0 0, .slice none 0 0] 34)).cell? ⟨w.heap.size + 2, 4, none⟩ = some (.slice la vs.length lc) := below_ext (below_a1 w7.drew _) l4'
                go_simp
                refine hK.out _ _ ?_ (fun hHeld => ?_)
                · exact hHeld
                try simp only [Act.put]
                try simp only [List.setIfInBounds_toArray]
                try simp only [List.set_cons_succ, List.set_cons_zero]
                refine wpAnyH_take (i := 3) (oi := ⟨some 58, _, _, _, _, _⟩) (v := ?_) rfl (by kernel_rfl) (by kernel_rfl) (by kernel_rfl) (fun _ _ _ h => h) (Or.inl ⟨by rfl, ?_⟩) (by assumption) ?_; rotate_left; focus (intro w hSw; (try dsimp only at hSw); first | (go_simp; done) | (go_simp; with_reducible rfl))
                try simp only [Act.put]
                try simp only [List.setIfInBounds_toArray]
                try simp only [List.set_cons_succ, List.set_cons_zero]
                refine wpAnyH_ready (rs := [5]) (by kernel_rfl) (by simp) ?_
                refine AllReadyH.cons (i := 5) (o := ⟨some 60, _, _, _, _, _⟩) rfl (fun K hK => ?_) ?_
                · refine step_append_Own rfl (.tmp 56) (.tmp 59) 32 rfl (w.heap.size + 3) 34 _ 6 88 Tryz.underlying32 Tryz.infoVal rfl (by decide) la vs.length lc _ (by simp [go_sem]) (by exact HP7.out.own.alloc _) _ 1 1 [.int .i64 0, .bool false, .int .i64 0, .string { data := #[] }, .slice none 0 0, .slice none 0 0] (by simp [go_sem]; rfl) (by exact Row.new1 (by simp) rfl rfl) (by intro u hu; simp at hu; rcases hu with rfl | rfl | rfl | rfl | rfl | rfl <;> rfl) (by unfold maxLen; omega) (by omega) (by simp; omega) ?_
                  intro a5 c5 w8 hown8 hg8 hbk8
                  obtain ⟨gb, off, rfl⟩ := hown8.addr (by have := hown8.le; omega)
                  obtain ⟨⟨s0, s1, s2, s3, s4, s5⟩, ⟨z0, z1, z2, z3, z4, z5⟩, hgb⟩ := hown8.slots6
                  have hv8 : Blk w8 (w.heap.size + 2) #[.int .i64 sort, .bool false, .int .i64 0, .string { data := #[] }, .slice la vs.length lc, .slice ka ks.length kc] 34 := by
                    first
                      | exact Blk.grown (Blk.drew (Blk.alloc HP7.out.blk _)) hg8 (HP7.out.own.apart (by omega))
                      | exact Blk.grown (Blk.alloc HP7.out.blk _) hg8 (HP7.out.own.apart (by omega))
                      | exact Blk.grown (Blk.alloc (Blk.drew HP7.out.blk) _) hg8 (HP7.out.own.apart (by omega))
                  have l4 := hv8.cell 4
                  have m4 := hv8.free 4
                  simp only [List.getElem?_toArray, List.getElem?_cons_zero, List.getElem?_cons_succ] at l4
                  have hgv : gb ≠ w.heap.size + 2 := by omega
                  have hxg : xb ≠ gb := by
                    intro he
                    have hr8 : rowOf (some ⟨gb, off, none⟩) c5 = some gb := by rw [rowOf_pos (by have := hown8.le; omega)]; rfl
                    rcases hbk8 with h | h
                    · exact Hxr.out (by rw [← h, hr8, he])
                    · rw [hr8] at h; injection h with h; have := Hxs.out; simp at h; omega
                  have hgf := grown_from (w7 := w7) (by first | exact below_a1 w7 _ | exact (below_a1 w7 _).drew | exact (Below.refl _ w7).drew.alloc (Nat.le_refl _) _) hg8 hbk8
                  have Hown8 := Lib.hid hown8
                  have Hg8 := Lib.hid hg8
                  have Hgf8 := Lib.hid hgf
                  clear hown8 hg8 hbk8 hv8 hgf
                  refine hK.out _ _ ?_ (fun hHeld => ?_)
                  · exact (hHeld).block (Hg8.out.block xb (by have := Hxl.out; simp; omega) Hxr.out)
                  try simp only [Act.put]
                  try simp only [List.setIfInBounds_toArray]
                  try simp only [List.set_cons_succ, List.set_cons_zero]
                  refine wpAnyH_take (i := 6) (oi := ⟨some 61, _, _, _, _, _⟩) (v := ?_) rfl (by kernel_rfl) (by kernel_rfl) (by kernel_rfl) (fun _ _ _ h => h) (Or.inl ⟨by rfl, ?_⟩) (by assumption) ?_; rotate_left; focus (intro w hSw; (try dsimp only at hSw); (have hlt1 : ((vs.length : Int) < (vs.length : Int) + 1) = True := eq_true (by omega); first | (go_simp; done) | (go_simp; with_reducible rfl)))
                  try simp only [Act.put]
                  try simp only [List.setIfInBounds_toArray]
                  try simp only [List.set_cons_succ, List.set_cons_zero]
                  refine wpAnyH_take (i := 8) (oi := ⟨some 62, _, _, _, _, _⟩) (v := ?_) rfl (by kernel_rfl) (by kernel_rfl) (by kernel_rfl) (fun _ _ _ h => h) (Or.inl ⟨by rfl, ?_⟩) (by assumption) ?_; rotate_left; focus (intro w hSw; (try dsimp only at hSw); first | (go_simp; done) | (go_simp; with_reducible rfl))
                  try simp only [Act.put]
                  try simp only [List.setIfInBounds_toArray]
                  try simp only [List.set_cons_succ, List.set_cons_zero]
                  refine wpAnyH_ready (rs := [7, 9]) (by kernel_rfl) (by simp) ?_
                  refine AllReadyH.cons (i := 7) (o := ⟨none, _, _, _, _, _⟩) rfl (fun K hK => ?_) ?_
                  · go_simp
                    refine hK.out _ _ ?_ (fun hHeld => ?_)
                    · exact hHeld.block (put6_other (g := gb) (o := off + vs.length * 6) hxg)
                    try simp only [Act.put]
                    try simp only [List.setIfInBounds_toArray]
                    try simp only [List.set_cons_succ, List.set_cons_zero]
                    refine wpAnyH_ready (rs := [9]) (by kernel_rfl) (by simp) ?_
                    refine AllReadyH.cons (i := 9) (o := ⟨none, _, _, _, _, _⟩) rfl (fun K hK => ?_) ?_
                    · go_simp
                      refine hK.out _ _ ?_ (fun hHeld => ?_)
                      · exact hHeld.block (Below.heap_setCell _ ⟨w.heap.size + 2, 4, none⟩ _ xb (by show xb ≠ w.heap.size + 2; have := Hxl2.out; omega))
                      try simp only [Act.put]
                      try simp only [List.setIfInBounds_toArray]
                      try simp only [List.set_cons_succ, List.set_cons_zero]
                      refine wpAnyH_done (by kernel_rfl) ?_ _
                      have hP9 := HP7.out.pushVal (w' := put6 w8 gb (off + vs.length * 6) (.int .i64 d.sort) (.bool d.on) (.int .i64 d.n) (.string ⟨d.text.toArray⟩) (.slice d.a d.list.length d.c) (.slice d.ka d.keys.length d.kc)) (x := d) HD7.out (Own.put6 d Hown8.out)
                        (fun j hj h1 h2 => (put6_other (fun e => h2 (by rw [rowOf_pos (by have := Hown8.out.le; omega), e]; rfl))).trans (Hgf8.out.1 j hj h1)) (put6_below Hgf8.out.2.1 (Nat.zero_le _)) Hgf8.out.2.2
                      have hbg : b ≠ gb := by omega
                      have hR9 : RdAt ((put6 w8 gb (off + vs.length * 6) (.int .i64 d.sort) (.bool d.on) (.int .i64 d.n) (.string ⟨d.text.toArray⟩) (.slice d.a d.list.length d.c) (.slice d.ka d.keys.length d.kc)).setCell ⟨w.heap.size + 2, 4, none⟩ (.slice (some ⟨gb, off, none⟩) (vs.length + 1) c5)) b r2 ((o : Int) + 1) :=
                        Blk.other (p := ⟨w.heap.size + 2, 4, none⟩) ((put6_other hbg).trans ((Hgf8.out.1 b (Blk.lt HR7.out) (HP7.out.own.apart (by omega))).trans HR7.out)) (by show b ≠ w.heap.size + 2; omega) _
                      obtain ⟨W9, hW9⟩ : ∃ W9, W9 = (((((((w8.setCell ⟨gb, off + vs.length * 6, none⟩ (.int .i64 d.sort)).setCell ⟨gb, off + vs.length * 6 + 1, none⟩ (.bool d.on)).setCell ⟨gb, off + vs.length * 6 + 2, none⟩ (.int .i64 d.n)).setCell ⟨gb, off + vs.length * 6 + 3, none⟩ (.string ⟨d.text.toArray⟩)).setCell ⟨gb, off + vs.length * 6 + 4, none⟩ (.slice d.a d.list.length d.c)).setCell ⟨gb, off + vs.length * 6 + 5, none⟩ (.slice d.ka d.keys.length d.kc)).setCell ⟨w.heap.size + 1 + 1, 4, none⟩ (.slice (some ⟨gb, off, none⟩) (vs.length + 1) c5)) := ⟨_, rfl⟩
                      rw [← hW9]
                      have HP9 : Hid (PV w W9 b sort (vs ++ [d]) (some ⟨gb, off, none⟩) c5 ks ka kc) := Lib.hid (by rw [hW9]; exact hP9)
                      have HR9 : Hid (RdAt W9 b r2 ((o : Int) + 1)) := Lib.hid (by rw [hW9]; exact hR9)
                      clear hP9 hR9 hW9 hbg s0 s1 s2 s3 s4 s5 z0 z1 z2 z3 z4 z5 hgb l4 m4 hgv hxg Hown8 Hg8 Hgf8 HX Hxr Hxl Hxs Hxl2 HP7 HR7 HD7 l4'
                      have b0 := HP9.out.box.cell 0
                      simp only [List.getElem?_toArray, List.getElem?_cons_zero] at b0
                      cases ht : takes [e] r2 with
                      | some r3 =>
                        have hE : res = .ok (.mk sort false 0 [] ((vs ++ [d]).map VD.v) ks) r3 := by rw [Hg3.out, ht, List.map_append, List.map_singleton, Hdv.out]
                        have HE := Lib.hid hE
                        have HT := Lib.hid ht
                        clear hE ht
                        go_wp2_with fail
                        refine (takes_yes b r2 [e] r3 _ W9 HR9.out HT.out).mono ?_
                        rintro e' W10 ⟨rfl, hk10, hr10⟩
                        have hp10 := HP9.out.turn hbl hk10
                        have HR10 := Lib.hid hr10
                        have HP10 := Lib.hid hp10
                        have v0 := hp10.blk.cell 0
                        have v1 := hp10.blk.cell 1
                        have v2 := hp10.blk.cell 2
                        have v3 := hp10.blk.cell 3
                        have v4 := hp10.blk.cell 4
                        have v5 := hp10.blk.cell 5
                        simp only [List.getElem?_toArray, List.getElem?_cons_zero, List.getElem?_cons_succ] at v0 v1 v2 v3 v4 v5
                        rw [List.length_append, List.length_singleton] at v4
                        clear hk10 hr10 b0 hp10
                        have q0 := HP10.out.res.cell 0
                        have q1 := HP10.out.res.cell 1
                        have q2 := HP10.out.res.cell 2
                        have q3 := HP10.out.res.cell 3
                        have q4 := HP10.out.res.cell 4
                        have q5 := HP10.out.res.cell 5
                        have g0 := HP10.out.res.free 0
                        have g1 := HP10.out.res.free 1
                        have g2 := HP10.out.res.free 2
                        have g3 := HP10.out.res.free 3
                        have g4 := HP10.out.res.free 4
                        have g5 := HP10.out.res.free 5
                        unfold zeroV at q0 q1 q2 q3 q4 q5
                        simp only [List.getElem?_toArray, List.getElem?_cons_zero, List.getElem?_cons_succ] at q0 q1 q2 q3 q4 q5
                        go_wp2
                        have hfin := vaE_parts (o := o) HE.out HP10.out hbl HR10.out
                        rw [List.length_append, List.length_singleton] at hfin
                        exact leaves_dec (n0 := w.heap.size) (g := w.heap.size + 1) (b := b) (s := r3) (o := o) rfl rfl (store6 HP10.out.res) (HP10.out.box.other6 (by omega)) (HR10.out.put6 (by omega) _ _ _ _ _ _) hoj (by omega) (by omega) hfin
                      | none =>
                        have hg4 : res = match takes [44] r2 with | some r => loopL g (o + 1) sort e r (vs.map VD.v ++ [x]) ks | none => .err 21 := by rw [Hg3.out, ht]
                        have Hg4 := Lib.hid hg4
                        have HT := Lib.hid ht
                        clear hg4 ht
                        go_wp2_with fail
                        refine (takes_no b r2 [e] _ W9 HR9.out HT.out).mono ?_
                        rintro e' W10 ⟨rfl, hk10, hr10⟩
                        have HP10 := Lib.hid (HP9.out.turn hbl hk10)
                        have HR10 := Lib.hid hr10
                        clear hk10 hr10 b0
                        have b0 := HP10.out.box.cell 0
                        simp only [List.getElem?_toArray, List.getElem?_cons_zero] at b0
                        cases ht2 : takes [44] r2 with
                        | none =>
                          have hE : res = .err 21 := by rw [Hg4.out, ht2]
                          have HE := Lib.hid hE
                          have HT2 := Lib.hid ht2
                          clear hE ht2
                          go_wp2_with fail
                          refine (takes_no b r2 [44] _ W10 HR10.out HT2.out).mono ?_
                          rintro e' W11 ⟨rfl, hk11, hr11⟩
                          have HP11 := Lib.hid (HP10.out.turn hbl hk11)
                          have HR11 := Lib.hid hr11
                          clear hk11 hr11 b0
                          have q0 := HP11.out.res.cell 0
                          have q1 := HP11.out.res.cell 1
                          have q2 := HP11.out.res.cell 2
                          have q3 := HP11.out.res.cell 3
                          have q4 := HP11.out.res.cell 4
                          have q5 := HP11.out.res.cell 5
                          have g0 := HP11.out.res.free 0
                          have g1 := HP11.out.res.free 1
                          have g2 := HP11.out.res.free 2
                          have g3 := HP11.out.res.free 3
                          have g4 := HP11.out.res.free 4
                          have g5 := HP11.out.res.free 5
                          unfold zeroV at q0 q1 q2 q3 q4 q5
                          simp only [List.getElem?_toArray, List.getElem?_cons_zero, List.getElem?_cons_succ] at q0 q1 q2 q3 q4 q5
                          go_wp2
                          refine leaves_dec (n0 := w.heap.size) (g := w.heap.size + 1) (b := b) (s := r2) (o := ((o : Int) + 1) - 1) rfl rfl (store6 HP11.out.res) (HP11.out.box.other6 (by omega)) ?_ (by omega) (by omega) (by omega) ?_
                          · have := HR11.out.put6 (g := w.heap.size + 1) (by omega) (.int .i64 0) (.bool false) (.int .i64 0) (.string { data := #[] }) (.slice none 0 0) (.slice none 0 0)
                            rw [show ((o : Int) + 1) - 1 + 1 = ((o : Int) + 1) by omega]
                            exact this
                          · exact vaE_err HE.out ((HP11.out.keep.put6 (by omega) _ _ _ _ _ _).open _) ((HR11.out.put6 (by omega) _ _ _ _ _ _).open _) (by omega) (by omega)
                        | some r4 =>
                          have hE : g ≤ f ∧ res = loopL g (o + 1) sort e r4 ((vs ++ [d]).map VD.v) ks := ⟨by have := Hgf.out; omega, by rw [Hg4.out, ht2, List.map_append, List.map_singleton, Hdv.out]⟩
                          have HE := Lib.hid hE
                          have hl4 := takes_len ht2
                          have HT2 := Lib.hid ht2
                          clear hE ht2
                          go_wp2_with fail
                          refine (takes_yes b r2 [44] r4 _ W10 HR10.out HT2.out).mono ?_
                          rintro e' W11 ⟨rfl, hk11, hr11⟩
                          have HP11 := Lib.hid (HP10.out.turn hbl hk11)
                          have HR11 := Lib.hid hr11
                          have Hm : Hid (leftAt W11 b < leftAt wr b) := Lib.hid (by rw [leftAt_of HR11.out, leftAt_of hR.out]; simp only [List.length_singleton] at hl4; omega)
                          have hvl' : (vs ++ [d]).length + r4.length ≤ 1048576 := by rw [List.length_append, List.length_singleton]; simp only [List.length_singleton] at hl4; omega
                          have hkl' : ks.length + r4.length ≤ 1048576 := by omega
                          clear hk11 hr11 b0
                          go_wp2
                          go_roundw
                          case rel => exact ⟨g, r4, vs ++ [d], some ⟨gb, off, none⟩, c5, ks, ka, kc, HE, HP11, HR11, hvl', hkl'⟩
                          case measure => exact Hm.out
                    exact AllReadyH.nil
                  refine AllReadyH.cons (i := 9) (o := ⟨none, _, _, _, _, _⟩) rfl (fun K hK => ?_) ?_
                  · go_simp
                    refine hK.out _ _ ?_ (fun hHeld => ?_)
                    · exact hHeld.block (Below.heap_setCell _ ⟨w.heap.size + 2, 4, none⟩ _ xb (by show xb ≠ w.heap.size + 2; have := Hxl2.out; omega))
                    try simp only [Act.put]
                    try simp only [List.setIfInBounds_toArray]
                    try simp only [List.set_cons_succ, List.set_cons_zero]
                    refine wpAnyH_ready (rs := [7]) (by kernel_rfl) (by simp) ?_
                    refine AllReadyH.cons (i := 7) (o := ⟨none, _, _, _, _, _⟩) rfl (fun K hK => ?_) ?_
                    · go_simp
                      refine hK.out _ _ ?_ (fun hHeld => ?_)
                      · exact hHeld.block (put6_other (g := gb) (o := off + vs.length * 6) hxg)
                      try simp only [Act.put]
                      try simp only [List.setIfInBounds_toArray]
                      try simp only [List.set_cons_succ, List.set_cons_zero]
                      refine wpAnyH_done (by kernel_rfl) ?_ _
                      have hP9 := HP7.out.pushVal (w' := put6 w8 gb (off + vs.length * 6) (.int .i64 d.sort) (.bool d.on) (.int .i64 d.n) (.string ⟨d.text.toArray⟩) (.slice d.a d.list.length d.c) (.slice d.ka d.keys.length d.kc)) (x := d) HD7.out (Own.put6 d Hown8.out)
                        (fun j hj h1 h2 => (put6_other (fun e => h2 (by rw [rowOf_pos (by have := Hown8.out.le; omega), e]; rfl))).trans (Hgf8.out.1 j hj h1)) (put6_below Hgf8.out.2.1 (Nat.zero_le _)) Hgf8.out.2.2
                      have hbg : b ≠ gb := by omega
                      have hR9 : RdAt ((put6 w8 gb (off + vs.length * 6) (.int .i64 d.sort) (.bool d.on) (.int .i64 d.n) (.string ⟨d.text.toArray⟩) (.slice d.a d.list.length d.c) (.slice d.ka d.keys.length d.kc)).setCell ⟨w.heap.size + 2, 4, none⟩ (.slice (some ⟨gb, off, none⟩) (vs.length + 1) c5)) b r2 ((o : Int) + 1) :=
                        Blk.other (p := ⟨w.heap.size + 2, 4, none⟩) ((put6_other hbg).trans ((Hgf8.out.1 b (Blk.lt HR7.out) (HP7.out.own.apart (by omega))).trans HR7.out)) (by show b ≠ w.heap.size + 2; omega) _
                      rw [← put6_comm (q := ⟨w.heap.size + 2, 4, none⟩) hgv] at hP9 hR9
                      obtain ⟨W9, hW9⟩ : ∃ W9, W9 = (((((((w8.setCell ⟨w.heap.size + 1 + 1, 4, none⟩ (.slice (some ⟨gb, off, none⟩) (vs.length + 1) c5)).setCell ⟨gb, off + vs.length * 6, none⟩ (.int .i64 d.sort)).setCell ⟨gb, off + vs.length * 6 + 1, none⟩ (.bool d.on)).setCell ⟨gb, off + vs.length * 6 + 2, none⟩ (.int .i64 d.n)).setCell ⟨gb, off + vs.length * 6 + 3, none⟩ (.string ⟨d.text.toArray⟩)).setCell ⟨gb, off + vs.length * 6 + 4, none⟩ (.slice d.a d.list.length d.c)).setCell ⟨gb, off + vs.length * 6 + 5, none⟩ (.slice d.ka d.keys.length d.kc)) := ⟨_, rfl⟩
                      rw [← hW9]
                      have HP9 : Hid (PV w W9 b sort (vs ++ [d]) (some ⟨gb, off, none⟩) c5 ks ka kc) := Lib.hid (by rw [hW9]; exact hP9)
                      have HR9 : Hid (RdAt W9 b r2 ((o : Int) + 1)) := Lib.hid (by rw [hW9]; exact hR9)
                      clear hP9 hR9 hW9 hbg s0 s1 s2 s3 s4 s5 z0 z1 z2 z3 z4 z5 hgb l4 m4 hgv hxg Hown8 Hg8 Hgf8 HX Hxr Hxl Hxs Hxl2 HP7 HR7 HD7 l4'
                      have b0 := HP9.out.box.cell 0
                      simp only [List.getElem?_toArray, List.getElem?_cons_zero] at b0
                      cases ht : takes [e] r2 with
                      | some r3 =>
                        have hE : res = .ok (.mk sort false 0 [] ((vs ++ [d]).map VD.v) ks) r3 := by rw [Hg3.out, ht, List.map_append, List.map_singleton, Hdv.out]
                        have HE := Lib.hid hE
                        have HT := Lib.hid ht
                        clear hE ht
                        go_wp2_with fail
                        refine (takes_yes b r2 [e] r3 _ W9 HR9.out HT.out).mono ?_
                        rintro e' W10 ⟨rfl, hk10, hr10⟩
                        have hp10 := HP9.out.turn hbl hk10
                        have HR10 := Lib.hid hr10
                        have HP10 := Lib.hid hp10
                        have v0 := hp10.blk.cell 0
                        have v1 := hp10.blk.cell 1
                        have v2 := hp10.blk.cell 2
                        have v3 := hp10.blk.cell 3
                        have v4 := hp10.blk.cell 4
                        have v5 := hp10.blk.cell 5
                        simp only [List.getElem?_toArray, List.getElem?_cons_zero, List.getElem?_cons_succ] at v0 v1 v2 v3 v4 v5
                        rw [List.length_append, List.length_singleton] at v4
                        clear hk10 hr10 b0 hp10
                        have q0 := HP10.out.res.cell 0
                        have q1 := HP10.out.res.cell 1
                        have q2 := HP10.out.res.cell 2
                        have q3 := HP10.out.res.cell 3
                        have q4 := HP10.out.res.cell 4
                        have q5 := HP10.out.res.cell 5
                        have g0 := HP10.out.res.free 0
                        have g1 := HP10.out.res.free 1
                        have g2 := HP10.out.res.free 2
                        have g3 := HP10.out.res.free 3
                        have g4 := HP10.out.res.free 4
                        have g5 := HP10.out.res.free 5
                        unfold zeroV at q0 q1 q2 q3 q4 q5
                        simp only [List.getElem?_toArray, List.getElem?_cons_zero, List.getElem?_cons_succ] at q0 q1 q2 q3 q4 q5
                        go_wp2
                        have hfin := vaE_parts (o := o) HE.out HP10.out hbl HR10.out
                        rw [List.length_append, List.length_singleton] at hfin
                        exact leaves_dec (n0 := w.heap.size) (g := w.heap.size + 1) (b := b) (s := r3) (o := o) rfl rfl (store6 HP10.out.res) (HP10.out.box.other6 (by omega)) (HR10.out.put6 (by omega) _ _ _ _ _ _) hoj (by omega) (by omega) hfin
                      | none =>
                        have hg4 : res = match takes [44] r2 with | some r => loopL g (o + 1) sort e r (vs.map VD.v ++ [x]) ks | none => .err 21 := by rw [Hg3.out, ht]
                        have Hg4 := Lib.hid hg4
                        have HT := Lib.hid ht
                        clear hg4 ht
                        go_wp2_with fail
                        refine (takes_no b r2 [e] _ W9 HR9.out HT.out).mono ?_
                        rintro e' W10 ⟨rfl, hk10, hr10⟩
                        have HP10 := Lib.hid (HP9.out.turn hbl hk10)
                        have HR10 := Lib.hid hr10
                        clear hk10 hr10 b0
                        have b0 := HP10.out.box.cell 0
                        simp only [List.getElem?_toArray, List.getElem?_cons_zero] at b0
                        cases ht2 : takes [44] r2 with
                        | none =>
                          have hE : res = .err 21 := by rw [Hg4.out, ht2]
                          have HE := Lib.hid hE
                          have HT2 := Lib.hid ht2
                          clear hE ht2
                          go_wp2_with fail
                          refine (takes_no b r2 [44] _ W10 HR10.out HT2.out).mono ?_
                          rintro e' W11 ⟨rfl, hk11, hr11⟩
                          have HP11 := Lib.hid (HP10.out.turn hbl hk11)
                          have HR11 := Lib.hid hr11
                          clear hk11 hr11 b0
                          have q0 := HP11.out.res.cell 0
                          have q1 := HP11.out.res.cell 1
                          have q2 := HP11.out.res.cell 2
                          have q3 := HP11.out.res.cell 3
                          have q4 := HP11.out.res.cell 4
                          have q5 := HP11.out.res.cell 5
                          have g0 := HP11.out.res.free 0
                          have g1 := HP11.out.res.free 1
                          have g2 := HP11.out.res.free 2
                          have g3 := HP11.out.res.free 3
                          have g4 := HP11.out.res.free 4
                          have g5 := HP11.out.res.free 5
                          unfold zeroV at q0 q1 q2 q3 q4 q5
                          simp only [List.getElem?_toArray, List.getElem?_cons_zero, List.getElem?_cons_succ] at q0 q1 q2 q3 q4 q5
                          go_wp2
                          refine leaves_dec (n0 := w.heap.size) (g := w.heap.size + 1) (b := b) (s := r2) (o := ((o : Int) + 1) - 1) rfl rfl (store6 HP11.out.res) (HP11.out.box.other6 (by omega)) ?_ (by omega) (by omega) (by omega) ?_
                          · have := HR11.out.put6 (g := w.heap.size + 1) (by omega) (.int .i64 0) (.bool false) (.int .i64 0) (.string { data := #[] }) (.slice none 0 0) (.slice none 0 0)
                            rw [show ((o : Int) + 1) - 1 + 1 = ((o : Int) + 1) by omega]
                            exact this
                          · exact vaE_err HE.out ((HP11.out.keep.put6 (by omega) _ _ _ _ _ _).open _) ((HR11.out.put6 (by omega) _ _ _ _ _ _).open _) (by omega) (by omega)
                        | some r4 =>
                          have hE : g ≤ f ∧ res = loopL g (o + 1) sort e r4 ((vs ++ [d]).map VD.v) ks := ⟨by have := Hgf.out; omega, by rw [Hg4.out, ht2, List.map_append, List.map_singleton, Hdv.out]⟩
                          have HE := Lib.hid hE
                          have hl4 := takes_len ht2
                          have HT2 := Lib.hid ht2
                          clear hE ht2
                          go_wp2_with fail
                          refine (takes_yes b r2 [44] r4 _ W10 HR10.out HT2.out).mono ?_
                          rintro e' W11 ⟨rfl, hk11, hr11⟩
                          have HP11 := Lib.hid (HP10.out.turn hbl hk11)
                          have HR11 := Lib.hid hr11
                          have Hm : Hid (leftAt W11 b < leftAt wr b) := Lib.hid (by rw [leftAt_of HR11.out, leftAt_of hR.out]; simp only [List.length_singleton] at hl4; omega)
                          have hvl' : (vs ++ [d]).length + r4.length ≤ 1048576 := by rw [List.length_append, List.length_singleton]; simp only [List.length_singleton] at hl4; omega
                          have hkl' : ks.length + r4.length ≤ 1048576 := by omega
                          clear hk11 hr11 b0
                          go_wp2
                          go_roundw
                          case rel => exact ⟨g, r4, vs ++ [d], some ⟨gb, off, none⟩, c5, ks, ka, kc, HE, HP11, HR11, hvl', hkl'⟩
                          case measure => exact Hm.out
                    exact AllReadyH.nil
                  exact AllReadyH.nil
                exact AllReadyH.nil
              exact AllReadyH.nil
            exact AllReadyH.nil
end Go.Proofs.YtahiopjplfnlmaaGreatDoor
