/- Leaks, the document's, walked. -/
import Derived.Test.YtlpmpgocecmfbaaEscs
namespace Go.Proofs.Ytlpmpgocecmfbaa
open Go Go.RowKit

/-- the lesser of what is known and what comes -/
def upd (h d : Int) : Int := if d ≠ -2 ∧ (h < 0 ∨ max d 0 < h) then max d 0 else h

/-- the least by which location i comes to the heap, or to what escapes, of the first k -/
def leastTo (C : Nat → List Int) (bs : List Bool) (i : Nat) : Nat → Int
  | 0 => -1
  | k + 1 => if k = 0 ∨ bs[k]? = some true then upd (leastTo C bs i k) ((C k)[i]?.getD (-2)) else leastTo C bs i k

def heapsOf (C : Nat → List Int) (bs : List Bool) (n : Nat) : Nat → List Int
  | 0 => []
  | k + 1 => heapsOf C bs n k ++ [leastTo C bs (k + 2) n]
def resultsOf (C : Nat → List Int) : Nat → List Int
  | 0 => []
  | k + 1 => resultsOf C k ++ [max ((C 1)[k + 2]?.getD 0) (-1)]
theorem heapsOf_len (C : Nat → List Int) (bs : List Bool) (n k : Nat) : (heapsOf C bs n k).length = k := by induction k <;> simp [heapsOf, *]
theorem resultsOf_len (C : Nat → List Int) (k : Nat) : (resultsOf C k).length = k := by induction k <;> simp [resultsOf, *]

def LeakR (B : Nat) (locs : List LocD) (edges : List EdgeD) (p : Int) (C : Nat → List Int) (v : Value) (w' : World) : Prop :=
  (¬ RightG locs edges p ∧ v = .tuple #[.agg #[.string { data := #[] }, .slice none 0 0, .slice none 0 0], .int .i64 161]) ∨
  (RightG locs edges p ∧ ∃ bs h r, IsEsc locs C bs ∧ v = .tuple #[.agg #[.string { data := #[] }, h, r], .int .i64 0] ∧ OwnInts B (heapsOf C bs locs.length p.toNat) h w' ∧ OwnInts B (resultsOf C p.toNat) r w')

theorem Blk.set3 {w : World} {g : Nat} {a b c : Value} {e : TypeId} (h : Blk w g #[a, b, c] e) (x y z : Value) : Blk (((w.setCell ⟨g, 0, none⟩ x).setCell ⟨g, 1, none⟩ y).setCell ⟨g, 2, none⟩ z) g #[x, y, z] e := ((h.set 0 x).set 1 y).set 2 z
theorem Below.set3 {B : Nat} {w w' : World} (h : Below B w w') {g : Nat} (hg : B ≤ g) (i j k : Nat) (x y z : Value) : Below B w (((w'.setCell ⟨g, i, none⟩ x).setCell ⟨g, j, none⟩ y).setCell ⟨g, k, none⟩ z) :=
  ((h.setCell (p := ⟨g, i, none⟩) hg x).setCell (p := ⟨g, j, none⟩) hg y).setCell (p := ⟨g, k, none⟩) hg z

/-- what the document's Leaks keeps, with k params told -/
structure LInv (w wq : World) (tS tG : TypeId) (args : Array Value) (B2 g gs cap n : Nat) (bs : List Bool) (hs rs : List Int) (kh kr : Nat) (aH : Option Addr) (cH : Nat) (aR : Option Addr) (cR : Nat) : Prop where
  h : Own wq B2 3 1 aH kh cH (hs.map (Value.int .i64))
  r : Own wq B2 3 1 aR kr cR (rs.map (Value.int .i64))
  apart : rowOf aH cH = none ∨ rowOf aH cH ≠ rowOf aR cR
  bools : Own wq w.heap.size 4 1 (some ⟨g, 0, none⟩) n cap (bs.map Value.bool)
  below : Below w.heap.size w wq
  k0 : Blk wq w.heap.size args tG
  k1 : Blk wq (w.heap.size + 1) #[.string { data := #[] }, .slice none 0 0, .slice none 0 0] tS
  ks : Blk wq gs #[.string { data := #[] }, .slice aH kh cH, .slice aR kr cR] tS
  size : B2 ≤ wq.heap.size
theorem LInv.ext {w wq w' : World} {tS tG : TypeId} {args : Array Value} {B2 g gs cap n : Nat} {bs : List Bool} {hs rs : List Int} {kh kr : Nat} {aH : Option Addr} {cH : Nat} {aR : Option Addr} {cR : Nat}
    (h : LInv w wq tS tG args B2 g gs cap n bs hs rs kh kr aH cH aR cR) (hb : Below wq.heap.size wq w') : LInv w w' tS tG args B2 g gs cap n bs hs rs kh kr aH cH aR cR :=
  ⟨h.h.ext hb, h.r.ext hb, h.apart, h.bools.ext hb, h.below.trans (hb.mono h.below.size), h.k0.ext hb, h.k1.ext hb, h.ks.ext hb, Nat.le_trans h.size hb.size⟩

theorem row_lt {w : World} {base : Nat} {e : TypeId} {a : Option Addr} {n cap : Nat} {xs : List Value} (h : Own w base e 1 a n cap xs) {j : Nat} (hj : rowOf a cap = some j) : base ≤ j ∧ j < w.heap.size := by
  unfold rowOf at hj
  split at hj
  · cases hj
  · exact h.size (by omega) hj

theorem LInv.pushH {w wq : World} {tS tG : TypeId} {args : Array Value} {B2 g gs cap n : Nat} {bs : List Bool} {hs rs : List Int} {kh kr : Nat} {aH : Option Addr} {cH : Nat} {aR : Option Addr} {cR : Nat} (h : LInv w wq tS tG args B2 g gs cap n bs hs rs kh kr aH cH aR cR)
    (h1 : gs < B2) (h2 : gs < g) (h3 : w.heap.size + 1 < gs) {o : Obj} {a' : Option Addr} {c' : Nat} {w5 : World} {x : Int} (hown : Own w5 B2 3 1 a' (kh + 1) c' ((hs ++ [x]).map (Value.int .i64)))
    (hg5 : (wq.alloc o).grownBy w5 (rowOf aH cH)) (hbk : rowOf a' c' = rowOf aH cH ∨ rowOf a' c' = some (wq.alloc o).heap.size) :
    LInv w (w5.setCell ⟨gs, 1, none⟩ (.slice a' (kh + 1) c')) tS tG args B2 g gs cap n bs (hs ++ [x]) rs (kh + 1) kr a' c' aR cR := by
  have hsz := h.size
  have hz := hg5.size
  simp at hz
  refine ⟨?_, ?_, ?_, ?_, ?_, ?_, ?_, ?_, ?_⟩
  · exact hown.setCell_other (fun he => by have := hown.base he; simp at this; omega) _
  · refine ((h.r.alloc o).keptApart (a2 := aH) (cap2 := cH) (fun k1 k2 he => ?_) hg5).setCell_other (fun he => by have := h.r.base he; simp at this; omega) _
    rcases h.apart with q | q
    · unfold rowOf at q; rw [if_neg (by omega)] at q
      obtain ⟨x, y, hx⟩ := h.h.addr k2
      subst hx; simp [blockOf] at q
    · exact q (by simp only [rowOf, if_neg (by omega : ¬ cH = 0), if_neg (by omega : ¬ cR = 0)]; exact he.symm)
  · rcases hbk with q | q
    · rw [q]; exact h.apart
    · refine .inr fun he => ?_
      rw [q] at he
      have := (row_lt h.r he.symm).2
      simp at this; omega
  · exact ((h.bools.alloc o).keptType (h.h.alloc o) (by decide) hg5).setCell_other (fun he => by simp [blockOf] at he; omega) _
  · exact ((h.below.alloc (by omega) o).grown hg5 (by simp; omega) (fun j hj => by have := (row_lt h.h hj).1; omega)).setCell (p := ⟨gs, 1, none⟩) (by show _ ≤ gs; omega) _
  · exact ((h.k0.alloc o).grown hg5 (h.h.apart (by omega))).other (p := ⟨gs, 1, none⟩) (by show _ ≠ gs; omega) _
  · exact ((h.k1.alloc o).grown hg5 (h.h.apart (by omega))).other (p := ⟨gs, 1, none⟩) (by show _ ≠ gs; omega) _
  · exact ((h.ks.alloc o).grown hg5 (h.h.apart (by omega))).set 1 _
  · simp; omega

theorem LInv.pushR {w wq : World} {tS tG : TypeId} {args : Array Value} {B2 g gs cap n : Nat} {bs : List Bool} {hs rs : List Int} {kh kr : Nat} {aH : Option Addr} {cH : Nat} {aR : Option Addr} {cR : Nat} (h : LInv w wq tS tG args B2 g gs cap n bs hs rs kh kr aH cH aR cR)
    (h1 : gs < B2) (h2 : gs < g) (h3 : w.heap.size + 1 < gs) {o : Obj} {a' : Option Addr} {c' : Nat} {w5 : World} {x : Int} (hown : Own w5 B2 3 1 a' (kr + 1) c' ((rs ++ [x]).map (Value.int .i64)))
    (hg5 : (wq.alloc o).grownBy w5 (rowOf aR cR)) (hbk : rowOf a' c' = rowOf aR cR ∨ rowOf a' c' = some (wq.alloc o).heap.size) :
    LInv w (w5.setCell ⟨gs, 2, none⟩ (.slice a' (kr + 1) c')) tS tG args B2 g gs cap n bs hs (rs ++ [x]) kh (kr + 1) aH cH a' c' := by
  have hsz := h.size
  have hz := hg5.size
  simp at hz
  refine ⟨?_, ?_, ?_, ?_, ?_, ?_, ?_, ?_, ?_⟩
  · refine ((h.h.alloc o).keptApart (a2 := aR) (cap2 := cR) (fun k1 k2 he => ?_) hg5).setCell_other (fun he => by have := h.h.base he; simp at this; omega) _
    rcases h.apart with q | q
    · unfold rowOf at q; rw [if_neg (by omega)] at q
      obtain ⟨x, y, hx⟩ := h.h.addr k1
      subst hx; simp [blockOf] at q
    · exact q (by simp only [rowOf, if_neg (by omega : ¬ cH = 0), if_neg (by omega : ¬ cR = 0)]; exact he)
  · exact hown.setCell_other (fun he => by have := hown.base he; simp at this; omega) _
  · rcases hbk with q | q
    · rw [q]; exact h.apart
    · refine .inr fun he => ?_
      rw [q] at he
      have := (row_lt h.h he).2
      simp at this; omega
  · exact ((h.bools.alloc o).keptType (h.r.alloc o) (by decide) hg5).setCell_other (fun he => by simp [blockOf] at he; omega) _
  · exact ((h.below.alloc (by omega) o).grown hg5 (by simp; omega) (fun j hj => by have := (row_lt h.r hj).1; omega)).setCell (p := ⟨gs, 2, none⟩) (by show _ ≤ gs; omega) _
  · exact ((h.k0.alloc o).grown hg5 (h.r.apart (by omega))).other (p := ⟨gs, 2, none⟩) (by show _ ≠ gs; omega) _
  · exact ((h.k1.alloc o).grown hg5 (h.r.apart (by omega))).other (p := ⟨gs, 2, none⟩) (by show _ ≠ gs; omega) _
  · exact ((h.ks.alloc o).grown hg5 (h.r.apart (by omega))).set 2 _
  · simp; omega

set_option maxRecDepth 100000 in
set_option maxHeartbeats 1000000 in
theorem refLeaks_any (aL aE : Option Addr) (cL cE : Nat) (p : Int) (locs : List LocD) (edges : List EdgeD) (C : Nat → List Int) (w : World) (hL : Row w 5 aL locs.length (locs.flatMap LocD.cells)) (hE : Row w 3 aE edges.length (edges.flatMap EdgeD.cells))
    (hC : RightG locs edges p → ComeAll edges locs.length C) (hl : locs.length ≤ 1048576) (hle : edges.length ≤ 1048576) :
    Calls Try.prog 17 #[.agg #[.slice aL locs.length cL, .slice aE edges.length cE, .int .i64 p]] w (Ret w (LeakR w.heap.size locs edges p C)) := by
  have HC := Lib.hid hC
  have HL := Lib.hid hL
  have HE := Lib.hid hE
  clear hL hE hC
  go_enter Try.func17, Try.ntmps17
  go_wp2_with fail
  refine (refRight_any aL aE cL cE p locs edges _ ((HL.out.ext (below_a1 _ _)).ext (below_a1 _ _)) ((HE.out.ext (below_a1 _ _)).ext (below_a1 _ _)) (by unfold maxLen; omega) (by unfold maxLen; omega)).mono ?_
  rintro e w1 ⟨v, rfl, hb1, right, rfl, hr⟩
  have k0 : Blk w1 w.heap.size #[.slice aL locs.length cL, .slice aE edges.length cE, .int .i64 p] 25 := ((Blk.new rfl).alloc _).ext hb1
  have k1 : Blk w1 (w.heap.size + 1) #[.string { data := #[] }, .slice none 0 0, .slice none 0 0] 46 := (Blk.new (by simp)).ext hb1
  have Hb1 := Lib.hid (((below_a1 _ _).trans ((below_a1 _ _).mono (by simp))).trans (hb1.mono (by simp; omega)))
  have Hr := Lib.hid hr
  have hs1 : w.heap.size + 1 < w1.heap.size := k1.lt
  have c0 := k0.cell 0
  have c1 := k0.cell 1
  have c2 := k0.cell 2
  have d0 := k1.cell 0
  have d1 := k1.cell 1
  have d2 := k1.cell 2
  have hs0 : w.heap.size < w1.heap.size := k0.lt
  have f0 := k1.free 0
  have f1 := k1.free 1
  have f2 := k1.free 2
  simp only [List.getElem?_toArray, List.getElem?_cons_zero, List.getElem?_cons_succ] at c0 c1 c2 d0 d1 d2
  have K0 := Lib.hid k0
  have K1 := Lib.hid k1
  clear hb1 hr k0 k1
  cases right
  · go_wp2
    refine bodyPost_ret (v := .tuple #[.agg #[.string { data := #[] }, .slice none 0 0, .slice none 0 0], .int .i64 161]) ?_ rfl ?_
    · have k1 := K1.out.set3 (.string { data := #[] }) (.slice none 0 0) (.slice none 0 0)
      have e0 := k1.cell 0
      have e1 := k1.cell 1
      have e2 := k1.cell 2
      simp only [List.getElem?_toArray, List.getElem?_cons_zero, List.getElem?_cons_succ] at e0 e1 e2
      simp [results, Try.results17, go_sem, e0, e1, e2]
    · exact ⟨_, rfl, Below.set3 Hb1.out (by omega) _ _ _ _ _ _, .inl ⟨fun h => by have := Hr.out.2 h; simp at this, rfl⟩⟩
  · have hR : RightG locs edges p := by have := Hr.out; simpa using this
    have HR := Lib.hid hR
    clear hR
    go_wp2_with fail
    have hbA := Hb1.out.alloc Hb1.out.size (.cells #[.string { data := #[] }, .slice none 0 0, .slice none 0 0] 46)
    have hkA : Blk _ w1.heap.size _ 46 := Blk.new (w := w1) (cur := #[.string { data := #[] }, .slice none 0 0, .slice none 0 0]) rfl
    refine (refEscapes_any aL aE cL cE p locs edges C _ (HL.out.ext hbA) (HE.out.ext hbA) HR.out (HC.out HR.out) (by unfold maxLen; omega)).mono ?_
    rintro e w2 ⟨v, rfl, hb2, bs, g, cap, rfl, hown, hbl, hbs⟩
    have hsA := hbA.size
    have hgs := hkA.lt
    have hinv : LInv w w2 46 25 #[.slice aL locs.length cL, .slice aE edges.length cE, .int .i64 p] w2.heap.size g w1.heap.size cap locs.length bs (heapsOf C bs locs.length 0) (resultsOf C 0) 0 0 none 0 none 0 :=
      ⟨Own.nil _ _ _ _, Own.nil _ _ _ _, .inl rfl, by rw [← hbl]; exact hown.mono hsA, hbA.trans (hb2.mono hsA), (K0.out.alloc _).ext hb2, (K1.out.alloc _).ext hb2, hkA.ext hb2, Nat.le_refl _⟩
    have Hgs : Hid (w1.heap.size < w2.heap.size ∧ g < w2.heap.size ∧ w.heap.size + 1 < w1.heap.size) := ⟨by have := (hkA.ext hb2).lt; omega, (hinv.bools.at0 (j := 0) (by have := HR.out.two; omega)).2.2.2, hs1⟩
    have Hgg : Hid (w1.heap.size < g) := by have h1 := hown.base (g := g) rfl; have h2 := hkA.lt; show _ < _; omega
    have HInv := Lib.hid hinv
    have HIs : Hid (IsEsc locs C bs) := ⟨hbl, hbs⟩
    clear hbA hkA hb2 hown hbs hsA hgs hinv c0 c1 c2 d0 d1 d2 f0 f1 f2 hs0 hs1 K0 K1
    generalize w2.heap.size = B2 at *
    generalize w1.heap.size = gs at *
    go_wp2_with fail
    go_loopw [7] (fun i wq => ∃ (k : Nat) (aH : Option Addr) (cH : Nat) (aR : Option Addr) (cR : Nat), (k : Int) ≤ p ∧ i = .int .i64 (k + 2) ∧ Hid (LInv w wq 46 25 #[.slice aL locs.length cL, .slice aE edges.length cE, .int .i64 p] B2 g gs cap locs.length bs (heapsOf C bs locs.length k) (resultsOf C k) k k aH cH aR cR)) (fun i _ => p.toNat + 2 - (intOf i).toNat)
    case atStart => exact ⟨0, none, 0, none, 0, HR.out.p0, rfl, HInv⟩
    case round =>
      clear HInv
      obtain ⟨k, aH, cH, aR, cR, hk, rfl, hinv⟩ := hrel
      have c0 := hinv.out.k0.cell 0
      have c1 := hinv.out.k0.cell 1
      have c2 := hinv.out.k0.cell 2
      simp only [List.getElem?_toArray, List.getElem?_cons_zero, List.getElem?_cons_succ] at c0 c1 c2
      have hp0 := HR.out.p0
      have hpn := HR.out.pn
      have hmost := HR.out.most
      obtain ⟨hg1, hg2, hg3⟩ := Hgs.out
      by_cases hlt : (k : Int) < p
      · have hlt2 : decide ((k : Int) + 2 < 2 + p) = true := by simp; omega
        go_wp2_with fail
        go_loopw [8, 9] (fun h i wz => ∃ (r : Nat), r ≤ locs.length ∧ i = .int .i64 r ∧ h = .int .i64 (leastTo C bs (k + 2) r) ∧ Hid (LInv w wz 46 25 #[.slice aL locs.length cL, .slice aE edges.length cE, .int .i64 p] B2 g gs cap locs.length bs (heapsOf C bs locs.length k) (resultsOf C k) k k aH cH aR cR)) (fun _ i _ => locs.length - (intOf i).toNat)
        case atStart => exact ⟨0, Nat.zero_le _, rfl, rfl, hinv⟩
        case round =>
          clear hinv c0 c1 c2
          obtain ⟨r, hr, rfl, rfl, hinv⟩ := hrel
          have c0 := hinv.out.k0.cell 0
          have c1 := hinv.out.k0.cell 1
          have c2 := hinv.out.k0.cell 2
          simp only [List.getElem?_toArray, List.getElem?_cons_zero, List.getElem?_cons_succ] at c0 c1 c2
          by_cases hrl : r < locs.length
          · go_wp2_with fail
            have hrc := refCome_any aL aE cL cE p r locs edges wr (HL.out.ext hinv.out.below) (HE.out.ext hinv.out.below) (by unfold maxLen; omega) (by unfold maxLen; omega)
            refine hrc.mono ?_
            clear hrc
            rintro e w3 ⟨v, rfl, hb3, hr3⟩
            rcases hr3 with ⟨hno, _⟩ | ⟨_, x, rfl, l, hl, a, capC, rfl, hownC, -⟩
            · exact absurd ⟨by have := HR.out; exact this, by omega, by omega⟩ hno
            · rw [Int.toNat_natCast] at hl
              obtain rfl := hl.unique (HC.out HR.out r hrl)
              have hll := hl.len
              obtain ⟨d, hd⟩ := get_some (l := C r) (i := k + 2) (by omega)
              obtain ⟨ab, ao, rfl, v1⟩ := hownC.row.elem1 hd
              obtain ⟨b, hb⟩ := get_some (l := bs) (i := r) (by rw [HIs.out.1]; exact hrl)
              obtain ⟨m1, m2, m3, m4⟩ := (hinv.out.ext hb3).bools.at0 (j := r) hrl
              rw [List.getElem?_map, hb] at m2
              simp only [Option.map_some] at m2
              have Hinv := Lib.hid (hinv.out.ext hb3)
              have hsum : leastTo C bs (k + 2) (r + 1) = if r = 0 ∨ b = true then upd (leastTo C bs (k + 2) r) d else leastTo C bs (k + 2) r := by simp [leastTo, hb, hd]
              have Hsum := Lib.hid hsum
              have hCk : (k : Int) + 2 < (C r).length := by omega
              have hrl2 : (r : Int) < locs.length := by omega
              generalize leastTo C bs (k + 2) r = h at *
              have c0 := Hinv.out.k0.cell 0
              have c1 := Hinv.out.k0.cell 1
              have c2 := Hinv.out.k0.cell 2
              simp only [List.getElem?_toArray, List.getElem?_cons_zero, List.getElem?_cons_succ] at c0 c1 c2
              clear hsum hinv hb hd hownC hl hll hb3 m1 hrl hp0 hpn hmost hg1 hg2 hg3 hlt m3 m4
              by_cases ht : r = 0 ∨ b = true
              · have e1 : leastTo C bs (k + 2) (r + 1) = upd h d := by have := Hsum.out; rwa [if_pos ht] at this
                have f0 : ((r : Int) == 0) = false → b = true := fun h0 => ht.resolve_left (by intro hz; subst hz; simp at h0)
                by_cases hd2 : d = -2
                · have e2 : upd h d = h := by simp [upd, hd2]
                  subst hd2
                  cases f1 : ((r : Int) == 0)
                  · obtain rfl := f0 f1
                    clear ht f0
                    go_wp2
                    go_roundw
                    case rel => exact ⟨r + 1, by omega, by go_num, by rw [e1, e2], Hinv⟩
                    case measure => simp [intOf]; omega
                  · clear ht f0
                    go_wp2
                    go_roundw
                    case rel => exact ⟨r + 1, by omega, by go_num, by rw [e1, e2], Hinv⟩
                    case measure => simp [intOf]; omega
                · have g1 : (d != -2) = true := by simpa using hd2
                  have hmx : max d 0 = if d < 0 then 0 else d := by split <;> omega
                  by_cases hh : h < 0
                  · have g2 : decide (h < 0) = true := by simpa using hh
                    have e2 : upd h d = if d < 0 then 0 else d := by rw [← hmx]; simp [upd, hd2, hh]
                    clear hh hd2 hmx
                    cases f1 : ((r : Int) == 0)
                    · obtain rfl := f0 f1
                      clear ht f0
                      go_wp2
                      go_roundw
                      case rel => exact ⟨r + 1, by omega, by go_num, by rw [e1, e2], Hinv⟩
                      case measure => simp [intOf]; omega
                    · clear ht f0
                      go_wp2
                      go_roundw
                      case rel => exact ⟨r + 1, by omega, by go_num, by rw [e1, e2], Hinv⟩
                      case measure => simp [intOf]; omega
                  · have g2 : decide (h < 0) = false := by simpa using hh
                    by_cases hm : max d 0 < h
                    · have g3 : decide ((if d < 0 then 0 else d) < h) = true := by rw [← hmx]; simpa using hm
                      have e2 : upd h d = if d < 0 then 0 else d := by rw [← hmx]; simp [upd, hd2, hm]
                      clear hh hd2 hm hmx
                      cases f1 : ((r : Int) == 0)
                      · obtain rfl := f0 f1
                        clear ht f0
                        go_wp2
                        go_roundw
                        case rel => exact ⟨r + 1, by omega, by go_num, by rw [e1, e2], Hinv⟩
                        case measure => simp [intOf]; omega
                      · clear ht f0
                        go_wp2
                        go_roundw
                        case rel => exact ⟨r + 1, by omega, by go_num, by rw [e1, e2], Hinv⟩
                        case measure => simp [intOf]; omega
                    · have g3 : decide ((if d < 0 then 0 else d) < h) = false := by rw [← hmx]; simpa using hm
                      have e2 : upd h d = h := by rw [upd, if_neg]; rintro ⟨_, q | q⟩ <;> omega
                      clear hh hd2 hm hmx
                      cases f1 : ((r : Int) == 0)
                      · obtain rfl := f0 f1
                        clear ht f0
                        go_wp2
                        go_roundw
                        case rel => exact ⟨r + 1, by omega, by go_num, by rw [e1, e2], Hinv⟩
                        case measure => simp [intOf]; omega
                      · clear ht f0
                        go_wp2
                        go_roundw
                        case rel => exact ⟨r + 1, by omega, by go_num, by rw [e1, e2], Hinv⟩
                        case measure => simp [intOf]; omega
              · obtain ⟨hr0, hbf⟩ := not_or.1 ht
                have f1 : ((r : Int) == 0) = false := by simp; omega
                cases b
                · clear ht hbf
                  have e1 : leastTo C bs (k + 2) (r + 1) = h := by have := Hsum.out; simpa [hr0] using this
                  go_wp2
                  go_roundw
                  case rel => exact ⟨r + 1, by omega, by go_num, by rw [e1], Hinv⟩
                  case measure => simp [intOf]; omega
                · exact absurd rfl hbf
          · obtain rfl : r = locs.length := by omega
            have htwo := HR.out.two
            go_wp2_with fail
            have hrc := refCome_any aL aE cL cE p 1 locs edges wr (HL.out.ext hinv.out.below) (HE.out.ext hinv.out.below) (by unfold maxLen; omega) (by unfold maxLen; omega)
            refine hrc.mono ?_
            clear hrc
            rintro e w3 ⟨v, rfl, hb3, hr3⟩
            rcases hr3 with ⟨hno, _⟩ | ⟨_, x, rfl, l, hl, a, capC, rfl, hownC, -⟩
            · exact absurd ⟨by have := HR.out; exact this, by omega, by omega⟩ hno
            · rw [show (1 : Int).toNat = 1 from rfl] at hl
              obtain rfl := hl.unique (HC.out HR.out 1 (by omega))
              have hll := hl.len
              obtain ⟨d, hd⟩ := get_some (l := C 1) (i := k + 2) (by omega)
              obtain ⟨ab, ao, rfl, v1⟩ := hownC.row.elem1 hd
              have hinv3 := hinv.out.ext hb3
              have hap : some ab ≠ rowOf aH cH := by
                intro he
                have := hownC.base (g := ab) rfl
                have hc : 0 < cH := by rcases Nat.eq_zero_or_pos cH with h0 | h0; (subst h0; simp [rowOf] at he); exact h0
                have := (hinv.out.h.size hc (g := ab) (by rw [he]; simp [rowOf]; omega)).2
                omega
              have hab : B2 ≤ ab := Nat.le_trans hinv.out.size (hownC.base (g := ab) rfl)
              have hap2 : some ab ≠ rowOf aR cR := by
                intro he
                have := hownC.base (g := ab) rfl
                have := (row_lt hinv.out.r he.symm).2
                omega
              have hvl := cell_lt v1
              have hsum : heapsOf C bs locs.length (k + 1) = heapsOf C bs locs.length k ++ [leastTo C bs (k + 2) locs.length] := rfl
              have hres : resultsOf C (k + 1) = resultsOf C k ++ [max d (-1)] := by simp [resultsOf, hd]
              have Hsum := Lib.hid hsum
              have Hres := Lib.hid hres
              have hCk : (k : Int) + 2 < (C 1).length := by omega
              obtain ⟨hg1, hg2, hg3⟩ := Hgs.out
              generalize leastTo C bs (k + 2) locs.length = h at *
              have s0 := hinv3.ks.cell 1
              have s1 := hinv3.ks.cell 2
              have g0 := hinv3.ks.free 1
              have g1 := hinv3.ks.free 2
              have hks := hinv3.ks.lt
              simp only [List.getElem?_toArray, List.getElem?_cons_zero, List.getElem?_cons_succ] at s0 s1
              have Hinv := Lib.hid hinv3
              clear hsum hres hd hownC hl hll hb3 hinv hinv3
              go_wp2_with (at_builtin; refine wpList_append_Own (o := ⟨some 84, _, _, _, _, _⟩) rfl _ _ 28 rfl B2 3 _ 1 8 Try.underlying28 Try.infoInt rfl (by decide) aH k cH _ rfl (by exact Hinv.out.h.alloc _) _ 1 1 [.int .i64 h] rfl (Row.new1 (by simp) rfl rfl) (by simp [Value.oneCell']) (by unfold maxLen; omega) (by omega) (by have := Hinv.out.size; simp; omega) ?_; intro a5 c5 w5 hown5 hg5 hbk5; have g2 := ((Hinv.out.ks.alloc _).grown hg5 (Hinv.out.h.apart hg1)).free 1; have q2 := ((Hinv.out.ks.alloc _).grown hg5 (Hinv.out.h.apart hg1)).cell 1; simp only [List.getElem?_toArray, List.getElem?_cons_zero, List.getElem?_cons_succ] at q2)
              have hinv5 := Hinv.out.pushH hg1 Hgg.out hg3 (x := h) (by rw [List.map_append]; exact hown5) hg5 hbk5
              have v5 : (w5.setCell ⟨gs, 1, none⟩ (.slice a5 (k + 1) c5)).cell? ⟨ab, ao + (k + 2), none⟩ = some (.int .i64 d) := by
                have := World.grownBy.cell hg5 (a := ⟨ab, ao + (k + 2), none⟩) (below_ext (below_a1 _ _) v1) hap
                rw [World.cell?_setCell_other _ _ _ _ (by intro e; injection e; omega)]; exact this
              clear hown5 hg5 hbk5 g2 q2 v1 Hinv s0 s1 g0 g1
              generalize w5.setCell ⟨gs, 1, none⟩ (.slice a5 (k + 1) c5) = W5 at *
              have s1 := hinv5.ks.cell 2
              have g1 := hinv5.ks.free 2
              simp only [List.getElem?_toArray, List.getElem?_cons_zero, List.getElem?_cons_succ] at s1
              have hmax : (if d < -1 then -1 else d) = max d (-1) := by split <;> omega
              have Hid5d := Lib.hid (hinv5.ext (Below.refl _ _).drew)
              have Hinv5 := Lib.hid hinv5
              have hvl5 := cell_lt v5
              have hks5 := hinv5.ks.lt
              have hk2 : (0 : Int) ≤ (k : Int) + 2 := by omega
              have hk3 : ((k : Int) + 2).toNat = k + 2 := by omega
              have Hown6 : Hid (∀ o, Own ((W5.alloc o).drew) B2 3 1 aR k cR ((resultsOf C k).map (Value.int .i64))) := fun o => (hinv5.r.alloc o).drewN 1
              have Hs6 : Hid (B2 ≤ W5.heap.size) := hinv5.size
              have Hks6 : Hid (∀ o w6, ((W5.alloc o).drew).grownBy w6 (rowOf aR cR) → w6.frozen? ⟨gs, 2, none⟩ = false ∧ w6.cell? ⟨gs, 2, none⟩ = some (.slice aR k cR)) := fun o w6 hg => by
                have := ((hinv5.ks.alloc o).drew).grown hg (hinv5.r.apart hg1)
                exact ⟨this.free 2, by have := this.cell 2; simpa using this⟩
              have Hv6 : Hid (∀ o w6, ((W5.alloc o).drew).grownBy w6 (rowOf aR cR) → w6.cell? ⟨ab, ao + (k + 2), none⟩ = some (.int .i64 d)) := fun o w6 hg => by
                exact World.grownBy.cell hg (below_ext (below_a1 _ _).drew v5) hap2
              -- BEGIN r18
              refine wp_region_held_drew (S := fun w' => w'.cell? ⟨ab, ao + (k + 2), none⟩ = some (.int .i64 d)) (by kernel_rfl) ?_ (fun hHeld => ?_)
              · go_keep
              refine wpAnyH_take (i := 0) (v := ?_) rfl (by kernel_rfl) (by kernel_rfl) (by kernel_rfl) (fun _ _ _ h => h) (Or.inl ⟨by rfl, ?_⟩) (by assumption) ?_; rotate_left; focus (intro w hSw; (try dsimp only at hSw); first | (go_simp; done) | (go_simp; with_reducible rfl)); (try simp only [Act.put]; (try simp only [List.setIfInBounds_toArray]); (try simp only [List.set_cons_succ, List.set_cons_zero]))
              refine wpAnyH_take (i := 2) (v := ?_) rfl (by kernel_rfl) (by kernel_rfl) (by kernel_rfl) (fun _ _ _ h => h) (Or.inl ⟨by rfl, ?_⟩) (by assumption) ?_; rotate_left; focus (intro w hSw; (try dsimp only at hSw); first | (go_simp; done) | (go_simp; with_reducible rfl)); (try simp only [Act.put]; (try simp only [List.setIfInBounds_toArray]); (try simp only [List.set_cons_succ, List.set_cons_zero]))
              refine wpAnyH_take (i := 3) (v := ?_) rfl (by kernel_rfl) (by kernel_rfl) (by kernel_rfl) (fun _ _ _ h => h) (Or.inl ⟨by rfl, ?_⟩) (by assumption) ?_; rotate_left; focus (intro w hSw; (try dsimp only at hSw); first | (go_simp; done) | (go_simp; with_reducible rfl)); (try simp only [Act.put]; (try simp only [List.setIfInBounds_toArray]); (try simp only [List.set_cons_succ, List.set_cons_zero]))
              refine wpAnyH_take (i := 4) (v := ?_) rfl (by kernel_rfl) (by kernel_rfl) (by kernel_rfl) (fun _ _ _ h => h) (Or.inl ⟨by rfl, ?_⟩) (by assumption) ?_; rotate_left; focus (intro w hSw; (try dsimp only at hSw); first | (go_simp; done) | (go_simp; with_reducible rfl)); (try simp only [Act.put]; (try simp only [List.setIfInBounds_toArray]); (try simp only [List.set_cons_succ, List.set_cons_zero]))
              refine wpAnyH_take (i := 5) (v := ?_) rfl (by kernel_rfl) (by kernel_rfl) (by kernel_rfl) (fun _ _ _ h => h) (Or.inl ⟨by rfl, ?_⟩) (by assumption) ?_; rotate_left; focus (intro w hSw; (try dsimp only at hSw); first | (go_simp; done) | (go_simp; with_reducible rfl)); (try simp only [Act.put]; (try simp only [List.setIfInBounds_toArray]); (try simp only [List.set_cons_succ, List.set_cons_zero]))
              refine wpAnyH_take (i := 6) (v := ?_) rfl (by kernel_rfl) (by kernel_rfl) (by kernel_rfl) (fun _ _ _ h => h) (Or.inl ⟨by rfl, ?_⟩) (by assumption) ?_; rotate_left; focus (intro w hSw; (try dsimp only at hSw); first | (go_simp; done) | (go_simp; with_reducible rfl)); (try simp only [Act.put]; (try simp only [List.setIfInBounds_toArray]); (try simp only [List.set_cons_succ, List.set_cons_zero]))
              refine wpAnyH_ready (rs := [1, 7]) (by kernel_rfl) (by simp) ?_
              refine AllReadyH.cons (i := 1) rfl (fun K hK => ?_) ?_
              · go_simp
                refine hK.out _ _ ?_ (fun hHeld => ?_)
                · go_keep
                try simp only [Act.put]; (try simp only [List.setIfInBounds_toArray]); (try simp only [List.set_cons_succ, List.set_cons_zero])
                refine wpAnyH_ready (rs := [7]) (by kernel_rfl) (by simp) ?_
                refine AllReadyH.cons (i := 7) rfl (fun K hK => ?_) ?_
                · go_simp
                  refine hK.out _ _ ?_ (fun hHeld => ?_)
                  · go_keep
                  try simp only [Act.put]; (try simp only [List.setIfInBounds_toArray]); (try simp only [List.set_cons_succ, List.set_cons_zero])
                  refine wpAnyH_ready (rs := [8]) (by kernel_rfl) (by simp) ?_
                  refine AllReadyH.cons (i := 8) rfl (fun K hK => ?_) ?_
                  · refine step_append_Own rfl (.tmp 87) (.tmp 93) 28 rfl B2 3 _ 1 8 Try.underlying28 Try.infoInt rfl (by decide) aR k cR _ (by simp [go_sem]) (by exact Hown6.out _) _ 1 1 [.int .i64 (max d (-1))] (by simp [go_sem]; rfl) (by exact Row.new1 (by simp) rfl (by simp; try exact hmax)) (by simp [Value.oneCell']) (by unfold maxLen; omega) (by omega) (by have := Hs6.out; simp; omega) ?_
                    intro a6 c6 w6 hown6 hg6 hbk6
                    have g6 := (Hks6.out _ _ hg6).1
                    have q6 := (Hks6.out _ _ hg6).2
                    refine hK.out _ _ ?_ (fun hHeld => ?_)
                    · exact Hv6.out _ _ hg6
                    try simp only [Act.put]; (try simp only [List.setIfInBounds_toArray]); (try simp only [List.set_cons_succ, List.set_cons_zero])
                    refine wpAnyH_take (i := 9) (v := ?_) rfl (by kernel_rfl) (by kernel_rfl) (by kernel_rfl) (fun _ _ _ h => h) (Or.inl ⟨by rfl, ?_⟩) (by assumption) ?_; rotate_left; focus (intro w hSw; (try dsimp only at hSw); first | (go_simp; done) | (go_simp; with_reducible rfl)); (try simp only [Act.put]; (try simp only [List.setIfInBounds_toArray]); (try simp only [List.set_cons_succ, List.set_cons_zero]))
                    refine wpAnyH_ready (rs := [10]) (by kernel_rfl) (by simp) ?_
                    refine AllReadyH.cons (i := 10) rfl (fun K hK => ?_) ?_
                    · go_simp
                      refine hK.out _ _ ?_ (fun hHeld => ?_)
                      · (show World.cell? _ _ = _; rw [World.cell?_setCell_other _ _ _ _ (by intro e; injection e; omega)]; exact hHeld)
                      try simp only [Act.put]
                      refine wpAnyH_done (by kernel_rfl) ?_ _
                      have hinv6 := Hid5d.out.pushR hg1 Hgg.out hg3 (x := max d (-1)) (by rw [List.map_append]; exact hown6) hg6 hbk6
                      rw [← Hsum.out, ← Hres.out] at hinv6
                      have Hinv6 := Lib.hid hinv6
                      clear hinv6 hHeld
                      go_wp2
                      go_roundw
                      case rel => exact ⟨k + 1, a5, c5, a6, c6, by omega, by go_num, Hinv6⟩
                      case measure => simp [intOf]; omega
                    exact AllReadyH.nil
                  exact AllReadyH.nil
                exact AllReadyH.nil
              refine AllReadyH.cons (i := 7) rfl (fun K hK => ?_) ?_
              · go_simp
                refine hK.out _ _ ?_ (fun hHeld => ?_)
                · go_keep
                try simp only [Act.put]; (try simp only [List.setIfInBounds_toArray]); (try simp only [List.set_cons_succ, List.set_cons_zero])
                refine wpAnyH_ready (rs := [1]) (by kernel_rfl) (by simp) ?_
                refine AllReadyH.cons (i := 1) rfl (fun K hK => ?_) ?_
                · go_simp
                  refine hK.out _ _ ?_ (fun hHeld => ?_)
                  · go_keep
                  try simp only [Act.put]; (try simp only [List.setIfInBounds_toArray]); (try simp only [List.set_cons_succ, List.set_cons_zero])
                  refine wpAnyH_ready (rs := [8]) (by kernel_rfl) (by simp) ?_
                  refine AllReadyH.cons (i := 8) rfl (fun K hK => ?_) ?_
                  · refine step_append_Own rfl (.tmp 87) (.tmp 93) 28 rfl B2 3 _ 1 8 Try.underlying28 Try.infoInt rfl (by decide) aR k cR _ (by simp [go_sem]) (by exact Hown6.out _) _ 1 1 [.int .i64 (max d (-1))] (by simp [go_sem]; rfl) (by exact Row.new1 (by simp) rfl (by simp; try exact hmax)) (by simp [Value.oneCell']) (by unfold maxLen; omega) (by omega) (by have := Hs6.out; simp; omega) ?_
                    intro a6 c6 w6 hown6 hg6 hbk6
                    have g6 := (Hks6.out _ _ hg6).1
                    have q6 := (Hks6.out _ _ hg6).2
                    refine hK.out _ _ ?_ (fun hHeld => ?_)
                    · exact Hv6.out _ _ hg6
                    try simp only [Act.put]; (try simp only [List.setIfInBounds_toArray]); (try simp only [List.set_cons_succ, List.set_cons_zero])
                    refine wpAnyH_take (i := 9) (v := ?_) rfl (by kernel_rfl) (by kernel_rfl) (by kernel_rfl) (fun _ _ _ h => h) (Or.inl ⟨by rfl, ?_⟩) (by assumption) ?_; rotate_left; focus (intro w hSw; (try dsimp only at hSw); first | (go_simp; done) | (go_simp; with_reducible rfl)); (try simp only [Act.put]; (try simp only [List.setIfInBounds_toArray]); (try simp only [List.set_cons_succ, List.set_cons_zero]))
                    refine wpAnyH_ready (rs := [10]) (by kernel_rfl) (by simp) ?_
                    refine AllReadyH.cons (i := 10) rfl (fun K hK => ?_) ?_
                    · go_simp
                      refine hK.out _ _ ?_ (fun hHeld => ?_)
                      · (show World.cell? _ _ = _; rw [World.cell?_setCell_other _ _ _ _ (by intro e; injection e; omega)]; exact hHeld)
                      try simp only [Act.put]
                      refine wpAnyH_done (by kernel_rfl) ?_ _
                      have hinv6 := Hid5d.out.pushR hg1 Hgg.out hg3 (x := max d (-1)) (by rw [List.map_append]; exact hown6) hg6 hbk6
                      rw [← Hsum.out, ← Hres.out] at hinv6
                      have Hinv6 := Lib.hid hinv6
                      clear hinv6 hHeld
                      go_wp2
                      go_roundw
                      case rel => exact ⟨k + 1, a5, c5, a6, c6, by omega, by go_num, Hinv6⟩
                      case measure => simp [intOf]; omega
                    exact AllReadyH.nil
                  exact AllReadyH.nil
                exact AllReadyH.nil
              exact AllReadyH.nil
              -- END r18
      · have hk' : (k : Int) = p := by omega
        have hlt2 : decide ((k : Int) + 2 < 2 + p) = false := by simp; omega
        have s0 := hinv.out.ks.cell 0
        have s1 := hinv.out.ks.cell 1
        have s2 := hinv.out.ks.cell 2
        have d0 := hinv.out.k1.cell 0
        have d1 := hinv.out.k1.cell 1
        have d2 := hinv.out.k1.cell 2
        have f0 := hinv.out.k1.free 0
        have f1 := hinv.out.k1.free 1
        have f2 := hinv.out.k1.free 2
        simp only [List.getElem?_toArray, List.getElem?_cons_zero, List.getElem?_cons_succ] at s0 s1 s2 d0 d1 d2
        go_wp2
        have hkp : p.toNat = k := by omega
        refine bodyPost_ret (v := .tuple #[.agg #[.string { data := #[] }, .slice aH k cH, .slice aR k cR], .int .i64 0]) ?_ rfl ?_
        · have k1 := hinv.out.k1.set3 (.string { data := #[] }) (.slice aH k cH) (.slice aR k cR)
          have e0 := k1.cell 0
          have e1 := k1.cell 1
          have e2 := k1.cell 2
          simp only [List.getElem?_toArray, List.getElem?_cons_zero, List.getElem?_cons_succ] at e0 e1 e2
          simp [results, Try.results17, go_sem, e0, e1, e2]
        · have hr : ∀ j, blockOf aR = some j → B2 ≤ j := fun j h => hinv.out.r.base h
          have hh : ∀ j, blockOf aH = some j → B2 ≤ j := fun j h => hinv.out.h.base h
          refine ⟨_, rfl, Below.set3 hinv.out.below (by omega) _ _ _ _ _ _, .inr ⟨HR.out, bs, _, _, HIs.out, rfl, ⟨aH, cH, by rw [heapsOf_len, hkp], ?_⟩, ⟨aR, cR, by rw [resultsOf_len, hkp], ?_⟩⟩⟩
          · rw [heapsOf_len, hkp]
            have h0 := hinv.out.h.mono (base' := w.heap.size) (by omega)
            exact ((h0.setCell_other (fun he => by have := hh _ he; simp at this; omega) _).setCell_other (fun he => by have := hh _ he; simp at this; omega) _).setCell_other (fun he => by have := hh _ he; simp at this; omega) _
          · rw [resultsOf_len, hkp]
            have h0 := hinv.out.r.mono (base' := w.heap.size) (by omega)
            exact ((h0.setCell_other (fun he => by have := hr _ he; simp at this; omega) _).setCell_other (fun he => by have := hr _ he; simp at this; omega) _).setCell_other (fun he => by have := hr _ he; simp at this; omega) _
end Go.Proofs.Ytlpmpgocecmfbaa
