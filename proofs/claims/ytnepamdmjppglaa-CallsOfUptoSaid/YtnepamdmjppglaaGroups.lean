/- The program's Groups, walked. -/
import Derived.Test.YtnepamdmjppglaaGPlain
import Derived.Deep.RegionHeld3
namespace Go.Proofs.Ytnepamdmjppglaa
open Go Go.RowKit Go.Shelf

def s00 : TSt Nm := { depth := fun _ => 0, low := fun _ => 0, grp := fun _ => 0, stack := [], cnt := 0, all := [] }
def v00 : FV := { sa := none, sc := 0, aa := none, ac := 0, all := [], dks := [], lks := [], gks := [] }
theorem s00_inv (g : Nm → List Nm) : TInv g s00 [] := by
  refine ⟨by simp [s00], by simp [s00], by simp [s00], by simp [s00], by simp, by simp [s00], by simp, by simp [s00], by simp [s00], by simp [s00], by simp [s00], by simp [s00], by simp [s00], by simp [s00], by simp [s00]⟩

/-- what is laid at the start -/
theorem fin_start (w1 : World) (gb : Nat) (w6 : World)
    (h : w6 = ((((w1.alloc (.map #[] 0)).alloc (.map #[] 0)).alloc (.map #[] 0)).alloc (.cells #[.map (some gb), .slice none 0 0, .map (some w1.heap.size), .map (some (w1.heap.size + 1)), .map (some (w1.heap.size + 1 + 1)), .slice none 0 0] 62)).alloc (.cells #[.pointer (some ⟨w1.heap.size + 1 + 1 + 1, 0, none⟩)] 60)) :
    IM w6 w1.heap.size [] (fun _ => 0) ∧ IM w6 (w1.heap.size + 1) [] (fun _ => 0) ∧ IM w6 (w1.heap.size + 1 + 1) [] (fun _ => 0) ∧
    Blk w6 (w1.heap.size + 1 + 1 + 1) #[.map (some gb), .slice none 0 0, .map (some w1.heap.size), .map (some (w1.heap.size + 1)), .map (some (w1.heap.size + 1 + 1)), .slice none 0 0] 62 ∧
    Blk w6 (w1.heap.size + 1 + 1 + 1 + 1) #[.pointer (some ⟨w1.heap.size + 1 + 1 + 1, 0, none⟩)] 60 ∧ Below w1.heap.size w1 w6 ∧ w6.heap.size = w1.heap.size + 5 := by
  subst h
  have h1 : IM (w1.alloc (.map #[] 0)) w1.heap.size [] (fun _ => 0) := SMap.made w1 _
  have h2 : IM ((w1.alloc (.map #[] 0)).alloc (.map #[] 0)) (w1.alloc (.map #[] 0)).heap.size [] (fun _ => 0) := SMap.made _ _
  have h3 : IM (((w1.alloc (.map #[] 0)).alloc (.map #[] 0)).alloc (.map #[] 0)) ((w1.alloc (.map #[] 0)).alloc (.map #[] 0)).heap.size [] (fun _ => 0) := SMap.made _ _
  rw [World.size_alloc] at h2
  rw [World.size_alloc, World.size_alloc] at h3
  refine ⟨(((h1.alloc _).alloc _).alloc _).alloc _, ((h2.alloc _).alloc _).alloc _, (h3.alloc _).alloc _, ?_, Blk.new (by simp), ?_, by simp⟩
  · exact (Blk.new (by simp)).alloc _
  · exact (((((below_a1 w1 _).alloc (by simp) _).alloc (by simp; omega) _).alloc (by simp; omega) _).alloc (by simp; omega) _)

/-- the walk over all names is through: each has a group -/
theorem TInv.all_grp {g : Nm → List Nm} {s : TSt Nm} (h : TInv g s []) {x : Nm} : s.grp x ≠ 0 ↔ s.depth x ≠ 0 := by
  refine ⟨h.seen x, fun hd hg => ?_⟩
  obtain ⟨y, hy, _⟩ := h.down x ((h.on x).2 ⟨hd, hg⟩)
  simp at hy
theorem Kept.own {F : FC} {w : World} (h : Kept F w) {B : Nat} {e : TypeId} {sz : Nat} {a : Option Addr} {n c : Nat} {xs : List Value} (k : Own F.W B e sz a n c xs) (hf : F.fb < B) (hl : F.lm < B) (hd : F.dm < B) (hg : F.gm < B) : Own w B e sz a n c xs := by
  refine ⟨k.1, ?_⟩
  rcases k.2 with h1 | ⟨g, off, cur, h1, h2, h3, r⟩
  · exact .inl h1
  · exact .inr ⟨g, off, cur, h1, h2, (h.block g (Array.getElem?_eq_some_iff.1 h3).1 (by omega) (by omega) (by omega) (by omega)).trans h3, r⟩

def valOf (v : FV) (i : Nat) : Value := match v.all[i]? with
  | some r => r.val
  | none => .int .i64 0
theorem valOf_some {v : FV} {i : Nat} {r : RowD} (h : v.all[i]? = some r) : valOf v i = r.val := by simp [valOf, h]
/-- what lies in memory between two takes -/
structure GM (W2 : World) (v : FV) (n tb pt pr pf : Nat) (oa : Option Addr) (oc : Nat) (od done td : List Nat) (ua : Option Addr) (uc : Nat) (w : World) : Prop where
  below : Below W2.heap.size W2 w
  bt : Blk w pt #[.slice (some ⟨tb, 0, none⟩) (n + 1) (n + 1)] 68
  br : Blk w pr #[.func (.func 34) #[] #[.pointer (some ⟨pf, 0, none⟩), .pointer (some ⟨pt, 0, none⟩)]] 71
  tr : Own w W2.heap.size 3 1 (some ⟨tb, 0, none⟩) (n + 1) (n + 1) (td.map intV)
  od : Own w (tb + 1) 3 1 oa n oc (od.map intV)
  out : Own w W2.heap.size 28 1 ua done.length uc (done.map (valOf v))
  tbw : W2.heap.size ≤ tb
theorem GM.ext {W2 : World} {v : FV} {n tb pt pr pf : Nat} {oa : Option Addr} {oc : Nat} {od done td : List Nat} {ua : Option Addr} {uc : Nat} {w w' : World} (h : GM W2 v n tb pt pr pf oa oc od done td ua uc w) (hb : Below w.heap.size w w') : GM W2 v n tb pt pr pf oa oc od done td ua uc w' :=
  ⟨h.below.trans (hb.mono h.below.size), h.bt.ext hb, h.br.ext hb, h.tr.ext hb, h.od.ext hb, h.out.ext hb, h.tbw⟩
theorem GM.drew {W2 : World} {v : FV} {n tb pt pr pf : Nat} {oa : Option Addr} {oc : Nat} {od done td : List Nat} {ua : Option Addr} {uc : Nat} {w : World} (h : GM W2 v n tb pt pr pf oa oc od done td ua uc w) : GM W2 v n tb pt pr pf oa oc od done td ua uc w.drew := h.ext ((Below.refl _ _).drew)
theorem blk_own_ne {w : World} {g : Nat} {cur : Array Value} {t : TypeId} (h : Blk w g cur t) {B : Nat} {e : TypeId} {sz tb n c : Nat} {xs : List Value} (k : Own w B e sz (some ⟨tb, 0, none⟩) n c xs) (hc : 0 < n) (hne : e ≠ t) : g ≠ tb := fun e2 => by
  subst e2
  rcases k.2 with ⟨h0, _⟩ | ⟨g', off, cur', e3, e4, e5, _⟩
  · omega
  · cases e3; unfold Blk at h; rw [h] at e5; cases e5; exact hne rfl
theorem own_row_ne {w : World} {B : Nat} {e : TypeId} {sz : Nat} {a : Option Addr} {n c : Nat} {xs : List Value} (h : Own w B e sz a n c xs) {B' : Nat} {e' : TypeId} {sz' tb n' c' : Nat} {xs' : List Value} (k : Own w B' e' sz' (some ⟨tb, 0, none⟩) n' c' xs') (hc : 0 < n') (hne : e' ≠ e) : rowOf a c ≠ some tb := by
  unfold rowOf; split
  · simp
  · rcases h.2 with ⟨_, e2, _⟩ | ⟨g', off, cur, e1, e2, e3, _⟩
    · omega
    · rw [e1]; intro e4; simp [blockOf] at e4; subst e4
      exact (blk_own_ne (show Blk w g' cur e from e3) k hc hne) rfl
theorem GM.told {W2 : World} {v : FV} {n tb pt pr pf : Nat} {oa : Option Addr} {oc : Nat} {od done td : List Nat} {ua : Option Addr} {uc : Nat} {w : World} (h : GM W2 v n tb pt pr pf oa oc od done td ua uc w) {x : Nat} (hx : x < n) :
    GM W2 v n tb pt pr pf oa oc od done (td.set (x + 1) 1) ua uc (w.setCell ⟨tb, x + 1, none⟩ (.int .i64 1)) := by
  refine ⟨h.below.setCell (p := ⟨tb, x + 1, none⟩) h.tbw _, h.bt.other (blk_own_ne h.bt h.tr (by omega) (by decide)) _, h.br.other (blk_own_ne h.br h.tr (by omega) (by decide)) _, ?_, h.od.setCell_other (fun e => Nat.not_succ_le_self _ (h.od.base e)) _, h.out.setCell_row (own_row_ne h.out h.tr (by omega) (by decide)) _, h.tbw⟩
  have := h.tr.set0 (j := x + 1) (by omega) (intV 1)
  rw [List.map_set]; exact this
theorem GM.push {W2 : World} {v : FV} {n tb pt pr pf : Nat} {oa : Option Addr} {oc : Nat} {od done td : List Nat} {ua : Option Addr} {uc : Nat} {w : World} (h : GM W2 v n tb pt pr pf oa oc od done td ua uc w) {x : Nat} {r : RowD} (hr : v.all[x]? = some r) {w0 : World} (h0 : Below w.heap.size w w0) {a' : Option Addr} {c' : Nat} {w' : World}
    (hown : Own w' W2.heap.size 28 1 a' (done.length + 1) c' (done.map (valOf v) ++ [r.val])) (hg : w0.grownBy w' (rowOf ua uc)) : GM W2 v n tb pt pr pf oa oc od (done ++ [x]) td a' c' w' := by
  have k := h.ext h0
  refine ⟨k.below.grown hg k.below.size (k.out.rowBase (Nat.le_refl _)), blk_foreign k.bt k.out (by decide) hg, blk_foreign k.br k.out (by decide) hg, k.tr.keptType k.out (by decide) hg, k.od.keptType k.out (by decide) hg, ?_, k.tbw⟩
  rw [List.length_append, List.map_append, List.map_cons, List.map_nil, valOf_some hr]; exact hown

theorem Kept.toBelow {F : FC} {w : World} (h : Kept F w) {B : Nat} (hB : B ≤ F.W.heap.size) (hf : B ≤ F.fb) (hl : B ≤ F.lm) (hd : B ≤ F.dm) (hg : B ≤ F.gm) : Below B F.W w :=
  ⟨h.os, h.tape, h.output, h.size, fun k hk => h.block k (by omega) (by omega) (by omega) (by omega) (by omega)⟩
def rowD (v : FV) (i : Nat) : RowD := match v.all[i]? with
  | some r => r
  | none => ⟨[], none, 0⟩
theorem rowD_some {v : FV} {i : Nat} {r : RowD} (h : v.all[i]? = some r) : rowD v i = r := by simp [rowD, h]

/-- what Groups hands back -/
def GOut (w : World) (l : List NodeD) (v : Value) (w' : World) : Prop := ∃ (gs : List RowD) (a' : Option Addr) (c' : Nat), v = .slice a' gs.length c' ∧ Own w' w.heap.size 28 1 a' gs.length c' (gs.map RowD.val) ∧ (∀ r ∈ gs, Row w' 1 r.a r.l.length (r.l.map strV)) ∧ gs.length ≤ 1048576 ∧ (∀ r ∈ gs, r.l.length ≤ 1048576) ∧
  Seqs (G l) (fun x y => x < y) (names l) (gs.map RowD.l) ∧ ∀ x ∈ names l, x ∈ (gs.map RowD.l).flatten

set_option maxHeartbeats 4000000 in
set_option maxRecDepth 20000 in
theorem groups_any (a : Option Addr) (c : Nat) (l : List NodeD) (w : World) (hn : NodesAt w a l) (hl : SmallN l) :
    Calls Try.prog 17 #[.slice a l.length c] w (Ret w (GOut w l)) := by
  have hmade := made_any a c l false w hn hl
  have HL := Lib.hid hl
  have hlen : l.length ≤ 1048576 := hl.len
  have hmm := @run_makeMap Try.prog
  clear hn hl
  go_enter Try.func17, Try.ntmps17
  go_wp2_with fail
  refine hmade.mono ?_
  clear hmade
  rintro e w1 ⟨_, rfl, hb1, gb, ks, E, sl, rfl, rfl, hG, hks, hkl, hP⟩
  have hE := hP.small HL.out
  have Hks := Lib.hid hks
  have HP := Lib.hid hP
  have Hb1 := Lib.hid hb1
  have HG := Lib.hid hG
  clear hks hP hb1 hG
  go_wp2_with fail
  obtain ⟨w6, hw6⟩ : ∃ w6, w6 = ((((w1.alloc (.map #[] 0)).alloc (.map #[] 0)).alloc (.map #[] 0)).alloc (.cells #[.map (some w.heap.size), .slice none 0 0, .map (some w1.heap.size), .map (some (w1.heap.size + 1)), .map (some (w1.heap.size + 1 + 1)), .slice none 0 0] 62)).alloc (.cells #[.pointer (some ⟨w1.heap.size + 1 + 1 + 1, 0, none⟩)] 60) := ⟨_, rfl⟩
  have hst := fin_start w1 w.heap.size w6 hw6
  rw [← hw6]
  clear hw6
  obtain ⟨pf, hpf⟩ : ∃ pf, pf = w1.heap.size + 1 + 1 + 1 + 1 := ⟨_, rfl⟩
  obtain ⟨fb, hfb⟩ : ∃ fb, fb = w1.heap.size + 1 + 1 + 1 := ⟨_, rfl⟩
  obtain ⟨gm, hgm⟩ : ∃ gm, gm = w1.heap.size + 1 + 1 := ⟨_, rfl⟩
  obtain ⟨dm, hdm⟩ : ∃ dm, dm = w1.heap.size + 1 := ⟨_, rfl⟩
  obtain ⟨lm, hlm⟩ : ∃ lm, lm = w1.heap.size := ⟨_, rfl⟩
  rw [← hpf, ← hfb, ← hgm, ← hdm] at hst
  rw [← hpf, ← hfb, ← hgm, ← hdm, ← hlm]
  obtain ⟨mL, mD, mG, kF, kP, hb6, hs6⟩ := hst
  rw [← hlm] at mL kF
  have hG6 := HG.out.ext hb6
  have hkeys := keysG_call (some w.heap.size) w6
  have hsorted := sortedG w.heap.size ks _ _ w6 hG6.map (by omega)
  have HST := Lib.hid (And.intro mL (And.intro mD (And.intro mG (And.intro kF kP))))
  have Hb6 := Lib.hid hb6
  have HW := Lib.hid (And.intro hpf (And.intro hfb (And.intro hgm (And.intro hdm (And.intro hlm hs6)))))
  clear mL mD mG kF kP hb6 hG6 hpf hfb hgm hdm hlm hs6
  refine hkeys.mono ?_
  clear hkeys
  rintro e w7 ⟨rfl, rfl⟩
  go_wp2_with fail
  refine hsorted.mono ?_
  clear hsorted
  rintro e w8 ⟨ka, kc, rfl, hok, hb8⟩
  have HS8 : Hid (FSt ({ W := w8, B := w.heap.size + 1, gb := w.heap.size, ks := ks, E := E, sl := sl, fb := fb, lm := lm, dm := dm, gm := gm } : FC) v00 w8 s00) := Lib.hid (by
    obtain ⟨mL, mD, mG, kF, kP⟩ := HST.out
    refine ⟨⟨Kept.refl _, kF.ext hb8, Own.nil _ _ _ _, Own.nil _ _ _ _, by simp [v00], by simp [v00]⟩, mL.ext hb8, mD.ext hb8, mG.ext hb8, by simp [s00, v00], by simp [s00, v00], by simp [s00, v00], by simp [v00], by simp [v00], by simp [v00], by simp [v00]⟩)
  have HO : Hid ({ W := w8, B := w.heap.size + 1, gb := w.heap.size, ks := ks, E := E, sl := sl, fb := fb, lm := lm, dm := dm, gm := gm } : FC).Ok := Lib.hid (by
    obtain ⟨mL, mD, mG, kF, kP⟩ := HST.out
    obtain ⟨h1, h2, h3, h4, h5, h6⟩ := HW.out
    have hgb := SMap.lt HG.out.map
    exact ⟨(HG.out.ext Hb6.out).ext hb8, ⟨_, kF.ext hb8⟩, im_obj (mL.ext hb8), im_obj (mD.ext hb8), im_obj (mG.ext hb8), by show w.heap.size ≠ lm; omega, by show w.heap.size ≠ dm; omega, by show w.heap.size ≠ gm; omega, by show lm ≠ dm; omega, by show lm ≠ gm; omega, by show dm ≠ gm; omega, by show ks.length ≤ _; omega, hE⟩)
  have HKp : Hid (Blk w8 pf #[.pointer (some ⟨fb, 0, none⟩)] 60) := Lib.hid (HST.out.2.2.2.2.ext hb8)
  have Hok := Lib.hid hok
  have Hb8 := Lib.hid hb8
  have hsk := srt_len ks
  have hw8 := hb8.size
  clear HST hok hb8
  go_wp2_with fail
  obtain ⟨ka0, hka⟩ : ∃ ka0, ka0 = ka := ⟨_, rfl⟩
  rw [← hka]
  have Hka := Lib.hid hka
  clear hka
  go_loopw [25] (fun i wq => ∃ (k : Nat) (v : FV) (s : TSt Nm), k ≤ ks.length ∧ i = .int .i64 k ∧ Hid (FSt ({ W := w8, B := w.heap.size + 1, gb := w.heap.size, ks := ks, E := E, sl := sl, fb := fb, lm := lm, dm := dm, gm := gm } : FC) v wq s) ∧ Hid (TInv (outs E) s []) ∧ Hid (∀ (j : Nat) y, j < k → (srt ks)[j]? = some y → s.depth y ≠ 0)) (fun i _ => ks.length - (intOf i).toNat)
  case atStart => exact ⟨0, v00, s00, Nat.zero_le _, rfl, HS8, Lib.hid (s00_inv _), Lib.hid fun j y h => by omega⟩
  case round =>
    clear HS8
    obtain ⟨k, v, s, hk, rfl, hF, hT, hall⟩ := hrel
    have hKp : Blk wr pf #[.pointer (some ⟨fb, 0, none⟩)] 60 := by
      obtain ⟨h1, h2, h3, h4, h5, h6⟩ := HW.out
      exact (hF.out.core.below.block pf HKp.out.lt (by show pf ≠ fb; omega) (by show pf ≠ lm; omega) (by show pf ≠ dm; omega) (by show pf ≠ gm; omega)).trans HKp.out
    have d0 : wr.cell? ⟨pf, 0, none⟩ = some (.pointer (some ⟨fb, 0, none⟩)) := hKp.cell 0
    by_cases hlt : k < ks.length
    · obtain ⟨y, hy⟩ := get_some (l := srt ks) (i := k) (by omega)
      have hrow : Row wr 1 ka (srt ks).length ((srt ks).map strV) := by
        obtain ⟨h1, h2, h3, h4, h5, h6⟩ := HW.out
        have := hF.out.core.below.own (F := ({ W := w8, B := w.heap.size + 1, gb := w.heap.size, ks := ks, E := E, sl := sl, fb := fb, lm := lm, dm := dm, gm := gm } : FC)) Hok.out (by show fb < _; omega) (by show lm < _; omega) (by show dm < _; omega) (by show gm < _; omega)
        rw [hsk]; exact this.row
      rw [← Hka.out] at hrow
      obtain ⟨b2, off2, hka2, c2⟩ := str_at hrow hy
      clear hrow Hka
      subst hka2
      have d3 : wr.cell? ⟨fb, 3, none⟩ = some (.map (some dm)) := hF.out.core.blk.cell 3
      have hyk : y ∈ ks := mem_srt.1 (List.mem_of_getElem? hy)
      have Hyk := Lib.hid hyk
      have Hyl : Hid (y.length ≤ maxLen) := Lib.hid (HG.out.map.klen y hyk)
      have Hy := Lib.hid hy
      clear hy hyk hKp
      by_cases hd : s.depth y = 0
      · have Hd := Lib.hid hd
        have hv := visit_any ({ W := w8, B := w.heap.size + 1, gb := w.heap.size, ks := ks, E := E, sl := sl, fb := fb, lm := lm, dm := dm, gm := gm } : FC) HO.out ks.length v wr s [] y hF.out hT.out hd Hyk.out (by simp) (by show ks.length ≤ _; omega)
        have Hv := Lib.hid hv
        clear hd hv
        go_wp2_with (at_lookup; refine wpList_lookI rfl _ _ rfl (by exact hF.out.dep) Hyl.out rfl rfl 0 Hd.out ?_)
        refine Hv.out.mono ?_
        rintro e w9 ⟨rfl, v9, s9, hF9, hV9⟩
        have HF9 := Lib.hid hF9
        have HV9 := Lib.hid hV9
        clear hF9 hV9 Hv
        go_wp2
        go_roundw
        case rel =>
          refine ⟨k + 1, v9, s9, by omega, by go_num, HF9, Lib.hid HV9.out.inv, Lib.hid fun j z hj hz => ?_⟩
          rcases Nat.lt_or_ge j k with h | h
          · have h1 := hall.out j z h hz
            rw [HV9.out.ext.depth z h1]; exact h1
          · obtain rfl : j = k := by omega
            rw [Hy.out] at hz; cases hz; exact HV9.out.vis
        case measure => simp [intOf]; omega
      · have fd : ((s.depth y : Int) == 0) = false := by simpa using hd
        have Hd := Lib.hid hd
        clear hd
        go_wp2_with (at_lookup; refine wpList_lookI rfl _ _ rfl (by exact hF.out.dep) Hyl.out rfl rfl (s.depth y) rfl ?_)
        go_roundw
        case rel =>
          refine ⟨k + 1, v, s, by omega, by go_num, hF, hT, Lib.hid fun j z hj hz => ?_⟩
          rcases Nat.lt_or_ge j k with h | h
          · exact hall.out j z h hz
          · obtain rfl : j = k := by omega
            rw [Hy.out] at hz; cases hz; exact Hd.out
        case measure => simp [intOf]; omega
    · obtain rfl : k = ks.length := by omega
      obtain ⟨W2, hW2⟩ : ∃ W2 : World, W2 = wr := ⟨_, rfl⟩
      subst hW2
      have hal : v.all.length ≤ 1048576 := Nat.le_trans (hF.out.allLe hT.out) (by show ks.length ≤ _; omega)
      have hmem : ∀ x, s.grp x ≠ 0 ↔ x ∈ ks := fun x => by
        rw [hT.out.all_grp]
        constructor
        · intro h; exact hF.out.dsub x ((hF.out.dk x).2 h)
        · intro h
          obtain ⟨j, hj⟩ := List.getElem?_of_mem (mem_srt.2 h)
          exact hall.out j x (by have := get_lt hj; omega) hj
      have hsl : s.all.length = v.all.length := by rw [hF.out.sall, List.length_map]
      have HTold : Hid (Told (outs E) s ks (glOf v) v.all.length) := Lib.hid ⟨hT.out, hmem, fun i hi => by
          obtain ⟨r, hr⟩ := get_some hi
          rw [glOf_some hr]; exact hF.out.ris r (List.mem_of_getElem? hr), fun i hi => by
          obtain ⟨r, hr⟩ := get_some hi
          rw [glOf_some hr, hF.out.sall, List.getElem?_map, hr]; rfl, hsl⟩
      have hgl : ∀ r ∈ v.all, r.l.length ≤ 1048576 := fun r hr => by
        have h1 := List.Nodup.length_le_of_subset (l₁ := r.l) (l₂ := ks) ((hF.out.ris r hr).imp fun h e => by subst e; exact absurd h (List.lt_irrefl _)) fun x hx => by
          obtain ⟨i, hi⟩ := List.getElem?_of_mem hr
          have hx2 : s.all[i]? = some r.l := by rw [hF.out.sall, List.getElem?_map, hi]; rfl
          have := (hT.out.mem i r.l hx2 x).1 hx
          exact (hmem x).1 (by omega)
        omega
      have Hgl := Lib.hid hgl
      have HF := hF
      have HT := hT
      obtain ⟨n, hn⟩ : ∃ n, n = v.all.length := ⟨_, rfl⟩
      have d5 : W2.cell? ⟨fb, 5, none⟩ = some (.slice v.aa n v.ac) := by rw [hn]; exact hF.out.core.blk.cell 5
      have HFt0 : Hid (Blk W2 pf #[.pointer (some ⟨fb, 0, none⟩)] 60) := Lib.hid hKp
      have hn0 : n ≤ 1048576 := by omega
      have Hn := Lib.hid hn
      have hw2 := hF.out.core.below.size
      obtain ⟨i0, hi, hz0, hz1, hz2⟩ := info_parts infoInt8
      have Hi := Lib.hid hi
      have Hz2 := Lib.hid hz2
      have fw : IntKind.i64.wrap ((n : Int) + 1) = (n : Int) + 1 := IntWalk.i64_in _ (by omega)
      clear hF hT hall hmem hsl hal hgl hn hi hz2 hKp
      go_wp2_with (at_make; refine wpList_make_full (o := ⟨some 46, _, _, _, _, _⟩) _ rfl _ _ 68 rfl W2.heap.size 3 i0 (.int .i64 0) 1 Try.underlying68 Hi.out hz0 hz1 _ _ _ _ (n + 1) rfl rfl rfl rfl ?b1 (by unfold maxLen; omega) (Nat.le_refl _) ?_)
      case b1 => first | omega | (rw [Hz2.out]; omega)
      intro w3 hown3 hg3
      simp only [toList_madeCells_one] at hown3
      obtain ⟨a3, c3, he3, hown3', -, -⟩ := Own.ofOwns hown3
      simp only [Value.slice.injEq, true_and] at he3
      obtain ⟨rfl, rfl⟩ := he3
      have e3 : List.replicate (n + 1) (Value.int .i64 0) = (List.replicate (n + 1) 0).map intV := by rw [List.map_replicate]; rfl
      rw [e3] at hown3'
      have hb3 : Below W2.heap.size W2 w3 := (Below.refl _ _).grown hg3 (Nat.le_refl _) (fun k h => by cases h)
      have hsz3 : W2.heap.size < w3.heap.size := (hown3'.size (by omega) rfl).2
      obtain ⟨tb, htb⟩ : ∃ tb, tb = W2.heap.size := ⟨_, rfl⟩
      rw [← htb]
      have HO3 := Lib.hid hown3'
      have Hb3 := Lib.hid hb3
      have Htb := Lib.hid htb
      clear hown3 hown3' hg3 hb3 e3 d5 d0 htb
      go_wp2_with fail
      obtain ⟨pt, hpt⟩ : ∃ pt, pt = w3.heap.size := ⟨_, rfl⟩
      obtain ⟨pr, hpr⟩ : ∃ pr, pr = w3.heap.size + 1 := ⟨_, rfl⟩
      obtain ⟨w5, hw5⟩ : ∃ w5, w5 = (w3.alloc (.cells #[.slice (some ⟨tb, 0, none⟩) (n + 1) (n + 1)] 68)).alloc (.cells #[.func (.func 34) #[] #[.pointer (some ⟨pf, 0, none⟩), .pointer (some ⟨w3.heap.size, 0, none⟩)]] 71) := ⟨_, rfl⟩
      have hM5 : Blk w5 pt #[.slice (some ⟨tb, 0, none⟩) (n + 1) (n + 1)] 68 ∧ Blk w5 pr #[.func (.func 34) #[] #[.pointer (some ⟨pf, 0, none⟩), .pointer (some ⟨pt, 0, none⟩)]] 71 ∧ Below w3.heap.size w3 w5 := by
        subst hw5
        subst hpt
        subst hpr
        exact ⟨(Blk.new rfl).alloc _, Blk.new (by simp), (below_a1 _ _).alloc (by simp) _⟩
      rw [← hw5, ← hpr, ← hpt]
      clear hw5
      have HM5 := Lib.hid hM5
      have HP5 := Lib.hid (And.intro hpt hpr)
      have hb5 : Below W2.heap.size W2 w5 := Hb3.out.trans (hM5.2.2.mono (by omega))
      have hF5 := HF.out.ext hb5
      have hk5 := HFt0.out.ext hb5
      have hcol := collect_int 39 #[.pointer (some ⟨pf, 0, none⟩)] (List.range v.all.length) v.all.length w5 (by have := Hn.out; omega) (by simp) (enters_of Try.func39 (by kernel_rfl) rfl) (count_stops ({ W := w8, B := w.heap.size + 1, gb := w.heap.size, ks := ks, E := E, sl := sl, fb := fb, lm := lm, dm := dm, gm := gm } : FC) v s pf w5.heap.size w5 hF5 hk5 (by have := Hn.out; omega))
      rw [← Hn.out, List.length_range] at hcol
      have Hb5 := Lib.hid hb5
      have HF5 := Lib.hid hF5
      have HK5 := Lib.hid hk5
      have hsz5 := hM5.2.2.size
      clear hM5 hpt hpr hb5 hF5 hk5
      refine hcol.mono ?_
      clear hcol
      rintro e w6x ⟨oa, oc, rfl, ho6, hb6x⟩
      have hord := order_any ({ W := w8, B := w.heap.size + 1, gb := w.heap.size, ks := ks, E := E, sl := sl, fb := fb, lm := lm, dm := dm, gm := gm } : FC) v s pf oa oc w5.heap.size w6x (HF5.out.ext hb6x) (HK5.out.ext hb6x) (by have := Hn.out; omega) Hgl.out (by rw [← Hn.out]; exact ho6) (by have := Hb5.out.size; show w8.heap.size ≤ _; omega)
      rw [← Hn.out] at hord
      have Hord := Lib.hid hord
      have Hb6x := Lib.hid hb6x
      have HO6 := Lib.hid ho6
      clear hord hb6x ho6
      go_wp2_with fail
      refine Hord.out.mono ?_
      clear Hord
      rintro e w7 ⟨rfl, od, hperm, hsort, ho7, hg7⟩
      have HM7 : Hid (GM W2 v n tb pt pr pf oa oc od [] (List.replicate (n + 1) 0) none 0 w7) := Lib.hid (by
        have h1 := HP5.out
        have h2 := HO6.out.rowBase (Nat.le_refl _)
        have h3 := Hb6x.out
        have hb6 : Below W2.heap.size W2 w6x := Hb5.out.trans (h3.mono Hb5.out.size)
        have hs6 := Hb5.out.size
        refine ⟨hb6.grown hg7 hb6.size (fun j hj => by have := h2 j hj; omega), blk_foreign (HM5.out.1.ext h3) HO6.out (by decide) hg7, blk_foreign (HM5.out.2.1.ext h3) HO6.out (by decide) hg7, ?_, ho7.mono (by have := Htb.out; omega), Own.nil _ _ _ _, by have := Htb.out; omega⟩
        have h4 := (HO3.out.ext HM5.out.2.2).ext h3
        rw [← Htb.out] at h4
        have h5 := h4.keptRow (row := rowOf oa oc) (fun e => by have := h2 tb e; have := Htb.out; omega) hg7
        rw [← Htb.out]; exact h5)
      have HP7 : Hid (LoopG (outs E) ks (glOf v) n (List.replicate (n + 1) 0) []) := Lib.hid (LoopG.start _ _ _ _)
      have Hperm := Lib.hid hperm
      have Hsort : Hid (od.Pairwise fun x y => ¬ cmpL (glOf v y) (glOf v x) < 0) := Lib.hid (hsort.imp fun h => by simpa using h)
      clear hperm hsort ho7 hg7 HO6 HO3 HM5 HF5 HK5
      go_wp2_with fail
      go_loopg [6] n (fun q out wq => ∃ (done td : List Nat) (ua : Option Addr) (uc : Nat), out = .slice ua done.length uc ∧ Hid (q = n - done.length) ∧ Hid (GM W2 v n tb pt pr pf oa oc od done td ua uc wq) ∧ Hid (LoopG (outs E) ks (glOf v) n td done))
      case atStart => exact ⟨[], _, none, 0, rfl, Lib.hid (by simp), HM7, HP7⟩
      case round =>
        clear HM7 HP7
        obtain ⟨done, td, ua, uc, rfl, hq, hM, hP⟩ := hrel
        have hdl := hP.out.le
        have hKw := HFt0.out.ext hM.out.below
        have hFw := HF.out.ext hM.out.below
        have g0 : wr.cell? ⟨pf, 0, none⟩ = some (.pointer (some ⟨fb, 0, none⟩)) := hKw.cell 0
        have g1 : wr.cell? ⟨fb, 5, none⟩ = some (.slice v.aa n v.ac) := by rw [Hn.out]; exact hFw.core.blk.cell 5
        by_cases hlt : done.length < n
        · have hpn : od.Perm (List.range n) := Hperm.out
          have hT' : Told (outs E) s ks (glOf v) n := by rw [Hn.out]; exact HTold.out
          have hidx := idxI_any pt pr (pick ({ W := w8, B := w.heap.size + 1, gb := w.heap.size, ks := ks, E := E, sl := sl, fb := fb, lm := lm, dm := dm, gm := gm } : FC) s td (glOf v)) oa oc od wr (by have := hM.out.od.row; rw [show od.length = n by have := hpn.length_eq; simpa using this]; exact this) (by have := hpn.length_eq; simp at this; omega) (fun x hx W hb => pick_any ({ W := w8, B := w.heap.size + 1, gb := w.heap.size, ks := ks, E := E, sl := sl, fb := fb, lm := lm, dm := dm, gm := gm } : FC) HO.out v s pf pt pr tb (n + 1) td x W ⟨hFw.ext hb, HT.out, hKw.ext hb, by rw [hP.out.tdl]; exact hM.out.bt.ext hb, by rw [hP.out.tdl]; exact (hM.out.tr.ext hb).mono hw2, by rw [hP.out.tdl, Hn.out], by have := Hn.out; omega⟩ (by have := hpn.mem_iff.1 hx; simp at this; have := Hn.out; omega) (hM.out.br.ext hb))
          rw [show od.length = n by have := hpn.length_eq; simpa using this] at hidx
          have Hidx := Lib.hid hidx
          have HT2 := Lib.hid hT'
          clear hidx hKw hFw hpn hT'
          go_wp2_with fail
          refine Hidx.out.mono ?_
          clear Hidx
          rintro e w9 ⟨hr9, hb9⟩
          have hM9 := hM.out.ext hb9
          rcases hr9 with ⟨k, x, rfl, hk, hpx, hmin⟩ | hno
          · have hxn : x < n := by
              have := Hperm.out.mem_iff.1 (List.mem_of_getElem? hk)
              simpa using this
            have hkn : k < n := by have := get_lt hk; have := Hperm.out.length_eq; simp at this; omega
            have HP10 := Lib.hid (LoopG.step (F := ({ W := w8, B := w.heap.size + 1, gb := w.heap.size, ks := ks, E := E, sl := sl, fb := fb, lm := lm, dm := dm, gm := gm } : FC)) HT2.out hP.out Hperm.out (List.Pairwise.imp (fun {x y} h => by first | exact h | omega) Hsort.out) hk hpx hmin)
            have hrow := hM9.od.row
            rw [show n = od.length by have := Hperm.out.length_eq; simp at this; omega] at hrow
            obtain ⟨ob, oo, hoa, ck⟩ := Row.elem1 (f := intV) hrow hk
            dsimp only [intV] at ck
            obtain ⟨r, hr⟩ := get_some (l := v.all) (i := x) (by have := Hn.out; omega)
            obtain ⟨ab, ao, haa, cr⟩ := Row.elem1 (f := RowD.val) HF.out.core.al.row hr
            have hc5 : W2.cell? ⟨fb, 5, none⟩ = some (.slice (some ⟨ab, ao, none⟩) n v.ac) := by rw [← haa, Hn.out]; exact HF.out.core.blk.cell 5
            have hcr : W2.cell? ⟨ab, ao + x, none⟩ = some (.slice r.a r.l.length r.c) := cr
            have Hr := Lib.hid hr
            have Hk := Lib.hid hk
            have HM9 := Lib.hid hM9
            have hM10 := hM9.told hxn
            have HM10 := Lib.hid hM10
            have Hrc := Lib.hid hcr
            have HFt := Lib.hid (And.intro hc5 HFt0.out)
            subst hoa
            have e0 : w9.cell? ⟨pt, 0, none⟩ = some (.slice (some ⟨tb, 0, none⟩) (n + 1) (n + 1)) := hM9.bt.cell 0
            have e1 : w9.cell? ⟨ob, oo + k, none⟩ = some (.int .i64 (x : Nat)) := ck
            have hat := hM9.tr.at0 (j := x + 1) (by omega)
            obtain ⟨tdx, htdx⟩ := get_some (l := td) (i := x + 1) (by have := hP.out.tdl; omega)
            have e2 : w9.cell? ⟨tb, x + 1, none⟩ = some (.int .i64 (tdx : Nat)) := by
              rw [hat.2.1, List.getElem?_map, htdx]; rfl
            have e3 : w9.frozen? ⟨tb, x + 1, none⟩ = false := hat.1
            have f0 : (w9.setCell ⟨tb, x + 1, none⟩ (.int .i64 1)).cell? ⟨pt, 0, none⟩ = some (.slice (some ⟨tb, 0, none⟩) (n + 1) (n + 1)) := hM10.bt.cell 0
            have f1 : (w9.setCell ⟨tb, x + 1, none⟩ (.int .i64 1)).cell? ⟨ob, oo + k, none⟩ = some (.int .i64 (x : Nat)) := by
              have hrow := hM10.od.row
              rw [show n = od.length by have := Hperm.out.length_eq; simp at this; omega] at hrow
              obtain ⟨b2, o2, e2, h2⟩ := Row.elem1 (f := intV) hrow Hk.out
              cases e2; exact h2
            have g0 : (w9.setCell ⟨tb, x + 1, none⟩ (.int .i64 1)).cell? ⟨pf, 0, none⟩ = some (.pointer (some ⟨fb, 0, none⟩)) := (HFt0.out.ext hM10.below).cell 0
            have g1 : (w9.setCell ⟨tb, x + 1, none⟩ (.int .i64 1)).cell? ⟨fb, 5, none⟩ = some (.slice (some ⟨ab, ao, none⟩) n v.ac) := below_ext hM10.below hc5
            have g2 := f1
            have g3 : (w9.setCell ⟨tb, x + 1, none⟩ (.int .i64 1)).cell? ⟨ab, ao + x, none⟩ = some (.slice r.a r.l.length r.c) := below_ext hM10.below hcr
            have fwx : IntKind.i64.wrap ((x : Int) + 1) = (x : Int) + 1 := IntWalk.i64_in _ (by omega)
            have hwz := HM9.out.below.size
            have hx0 : (0 : Int) ≤ (x : Int) + 1 := by omega
            have Hq0 : Hid (gk = n - done.length) := hq
            have Hlt := Lib.hid hlt
            clear hk hpx hmin hrow ck hr haa cr hc5 hcr hM9 hM10 hb9 hat htdx hM hP hq
            go_wp2_with fail
            refine wp_region_held_drew (S := fun w' => w'.cell? ⟨pt, 0, none⟩ = some (.slice (some ⟨tb, 0, none⟩) (n + 1) (n + 1)) ∧ w'.cell? ⟨ob, oo + k, none⟩ = some (.int .i64 (x : Nat))) (by kernel_rfl) ?_ (fun hHeld => ?_)
            · exact ⟨e0, e1⟩
            refine wpAnyH_take (i := 0) (oi := ⟨some 64, _, _, _, _, _⟩) (v := ?_) rfl (by kernel_rfl) (by kernel_rfl) (by kernel_rfl) (fun _ _ _ h => h) (Or.inl ⟨by rfl, ?_⟩) (by assumption) ?_; rotate_left; focus (intro w hSw; (try dsimp only at hSw); first | (go_simp; done) | (go_simp; with_reducible rfl))
            try simp only [Act.put]
            try simp only [List.setIfInBounds_toArray]
            try simp only [List.set_cons_succ, List.set_cons_zero]
            refine wpAnyH_take (i := 1) (oi := ⟨some 65, _, _, _, _, _⟩) (v := ?_) rfl (by kernel_rfl) (by kernel_rfl) (by kernel_rfl) (fun _ _ _ h => h) (Or.inl ⟨by rfl, ?_⟩) (by assumption) ?_; rotate_left; focus (intro w hSw; (try dsimp only at hSw); first | (go_simp; done) | (go_simp; with_reducible rfl))
            try simp only [Act.put]
            try simp only [List.setIfInBounds_toArray]
            try simp only [List.set_cons_succ, List.set_cons_zero]
            refine wpAnyH_take (i := 2) (oi := ⟨some 66, _, _, _, _, _⟩) (v := ?_) rfl (by kernel_rfl) (by kernel_rfl) (by kernel_rfl) (fun _ _ _ h => h) (Or.inl ⟨by rfl, ?_⟩) (by assumption) ?_; rotate_left; focus (intro w hSw; (try dsimp only at hSw); first | (go_simp; done) | (go_simp; with_reducible rfl))
            try simp only [Act.put]
            try simp only [List.setIfInBounds_toArray]
            try simp only [List.set_cons_succ, List.set_cons_zero]
            refine wpAnyH_take (i := 3) (oi := ⟨some 67, _, _, _, _, _⟩) (v := ?_) rfl (by kernel_rfl) (by kernel_rfl) (by kernel_rfl) (fun _ _ _ h => h) (Or.inl ⟨by rfl, ?_⟩) (by assumption) ?_; rotate_left; focus (intro w hSw; (try dsimp only at hSw); first | (go_simp; done) | (go_simp; with_reducible rfl))
            try simp only [Act.put]
            try simp only [List.setIfInBounds_toArray]
            try simp only [List.set_cons_succ, List.set_cons_zero]
            refine wpAnyH_take (i := 4) (oi := ⟨some 68, _, _, _, _, _⟩) (v := ?_) rfl (by kernel_rfl) (by kernel_rfl) (by kernel_rfl) (fun _ _ _ h => h) (Or.inl ⟨by rfl, ?_⟩) (by assumption) ?_; rotate_left; focus (intro w hSw; (try dsimp only at hSw); first | (go_simp; done) | (go_simp; with_reducible rfl))
            try simp only [Act.put]
            try simp only [List.setIfInBounds_toArray]
            try simp only [List.set_cons_succ, List.set_cons_zero]
            refine wpAnyH_take (i := 5) (oi := ⟨some 69, _, _, _, _, _⟩) (v := ?_) rfl (by kernel_rfl) (by kernel_rfl) (by kernel_rfl) (fun _ _ _ h => h) (Or.inl ⟨by rfl, ?_⟩) (by assumption) ?_; rotate_left; focus (intro w hSw; (try dsimp only at hSw); first | (go_simp; done) | (go_simp; with_reducible rfl))
            try simp only [Act.put]
            try simp only [List.setIfInBounds_toArray]
            try simp only [List.set_cons_succ, List.set_cons_zero]
            refine wpAnyH_take (i := 6) (oi := ⟨some 70, _, _, _, _, _⟩) (v := ?_) rfl (by kernel_rfl) (by kernel_rfl) (by kernel_rfl) (fun _ _ _ h => h) (Or.inl ⟨by rfl, ?_⟩) (by assumption) ?_; rotate_left; focus (intro w hSw; (try dsimp only at hSw); first | (go_simp; done) | (go_simp; with_reducible rfl))
            try simp only [Act.put]
            try simp only [List.setIfInBounds_toArray]
            try simp only [List.set_cons_succ, List.set_cons_zero]
            refine wpAnyH_ready (rs := [7]) (by kernel_rfl) (by simp) ?_
            refine AllReadyH.cons (i := 7) (o := ⟨none, _, _, _, _, _⟩) rfl (fun K hK => ?_) ?_
            · go_simp
              refine hK.out _ _ ?_ (fun hHeld => ?_)
              · exact ⟨f0, f1⟩
              try simp only [Act.put]
              try simp only [List.setIfInBounds_toArray]
              try simp only [List.set_cons_succ, List.set_cons_zero]
              refine wpAnyH_done (by kernel_rfl) ?_ _
              clear hHeld e0 e1 e2 e3 f0 f1
              go_wp2_with fail
              refine wp_region_held_drew (S := fun w' => w'.cell? ⟨pf, 0, none⟩ = some (.pointer (some ⟨fb, 0, none⟩)) ∧ w'.cell? ⟨fb, 5, none⟩ = some (.slice (some ⟨ab, ao, none⟩) n v.ac) ∧ w'.cell? ⟨ob, oo + k, none⟩ = some (.int .i64 (x : Nat)) ∧ w'.cell? ⟨ab, ao + x, none⟩ = some (.slice r.a r.l.length r.c)) (by kernel_rfl) ?_ (fun hHeld => ?_)
              · exact ⟨g0, g1, g2, g3⟩
              refine wpAnyH_take (i := 0) (oi := ⟨some 71, _, _, _, _, _⟩) (v := ?_) rfl (by kernel_rfl) (by kernel_rfl) (by kernel_rfl) (fun _ _ _ h => h) (Or.inl ⟨by rfl, ?_⟩) (by assumption) ?_; rotate_left; focus (intro w hSw; (try dsimp only at hSw); first | (go_simp; done) | (go_simp; with_reducible rfl))
              try simp only [Act.put]
              try simp only [List.setIfInBounds_toArray]
              try simp only [List.set_cons_succ, List.set_cons_zero]
              refine wpAnyH_take (i := 1) (oi := ⟨some 72, _, _, _, _, _⟩) (v := ?_) rfl (by kernel_rfl) (by kernel_rfl) (by kernel_rfl) (fun _ _ _ h => h) (Or.inl ⟨by rfl, ?_⟩) (by assumption) ?_; rotate_left; focus (intro w hSw; (try dsimp only at hSw); first | (go_simp; done) | (go_simp; with_reducible rfl))
              try simp only [Act.put]
              try simp only [List.setIfInBounds_toArray]
              try simp only [List.set_cons_succ, List.set_cons_zero]
              refine wpAnyH_take (i := 2) (oi := ⟨some 73, _, _, _, _, _⟩) (v := ?_) rfl (by kernel_rfl) (by kernel_rfl) (by kernel_rfl) (fun _ _ _ h => h) (Or.inl ⟨by rfl, ?_⟩) (by assumption) ?_; rotate_left; focus (intro w hSw; (try dsimp only at hSw); first | (go_simp; done) | (go_simp; with_reducible rfl))
              try simp only [Act.put]
              try simp only [List.setIfInBounds_toArray]
              try simp only [List.set_cons_succ, List.set_cons_zero]
              refine wpAnyH_take (i := 3) (oi := ⟨some 74, _, _, _, _, _⟩) (v := ?_) rfl (by kernel_rfl) (by kernel_rfl) (by kernel_rfl) (fun _ _ _ h => h) (Or.inl ⟨by rfl, ?_⟩) (by assumption) ?_; rotate_left; focus (intro w hSw; (try dsimp only at hSw); first | (go_simp; done) | (go_simp; with_reducible rfl))
              try simp only [Act.put]
              try simp only [List.setIfInBounds_toArray]
              try simp only [List.set_cons_succ, List.set_cons_zero]
              refine wpAnyH_take (i := 4) (oi := ⟨some 75, _, _, _, _, _⟩) (v := ?_) rfl (by kernel_rfl) (by kernel_rfl) (by kernel_rfl) (fun _ _ _ h => h) (Or.inl ⟨by rfl, ?_⟩) (by assumption) ?_; rotate_left; focus (intro w hSw; (try dsimp only at hSw); first | (go_simp; done) | (go_simp; with_reducible rfl))
              try simp only [Act.put]
              try simp only [List.setIfInBounds_toArray]
              try simp only [List.set_cons_succ, List.set_cons_zero]
              refine wpAnyH_take (i := 5) (oi := ⟨some 76, _, _, _, _, _⟩) (v := ?_) rfl (by kernel_rfl) (by kernel_rfl) (by kernel_rfl) (fun _ _ _ h => h) (Or.inl ⟨by rfl, ?_⟩) (by assumption) ?_; rotate_left; focus (intro w hSw; (try dsimp only at hSw); first | (go_simp; done) | (go_simp; with_reducible rfl))
              try simp only [Act.put]
              try simp only [List.setIfInBounds_toArray]
              try simp only [List.set_cons_succ, List.set_cons_zero]
              refine wpAnyH_take (i := 6) (oi := ⟨some 77, _, _, _, _, _⟩) (v := ?_) rfl (by kernel_rfl) (by kernel_rfl) (by kernel_rfl) (fun _ _ _ h => h) (Or.inl ⟨by rfl, ?_⟩) (by assumption) ?_; rotate_left; focus (intro w hSw; (try dsimp only at hSw); first | (go_simp; done) | (go_simp; with_reducible rfl))
              try simp only [Act.put]
              try simp only [List.setIfInBounds_toArray]
              try simp only [List.set_cons_succ, List.set_cons_zero]
              refine wpAnyH_take (i := 7) (oi := ⟨some 78, _, _, _, _, _⟩) (v := ?_) rfl (by kernel_rfl) (by kernel_rfl) (by kernel_rfl) (fun _ _ _ h => h) (Or.inl ⟨by rfl, ?_⟩) (by assumption) ?_; rotate_left; focus (intro w hSw; (try dsimp only at hSw); first | (go_simp; done) | (go_simp; with_reducible rfl))
              try simp only [Act.put]
              try simp only [List.setIfInBounds_toArray]
              try simp only [List.set_cons_succ, List.set_cons_zero]
              refine wpAnyH_take (i := 8) (oi := ⟨some 79, _, _, _, _, _⟩) (v := ?_) rfl (by kernel_rfl) (by kernel_rfl) (by kernel_rfl) (fun _ _ _ h => h) (Or.inl ⟨by rfl, ?_⟩) (by assumption) ?_; rotate_left; focus (intro w hSw; (try dsimp only at hSw); first | (go_simp; done) | (go_simp; with_reducible rfl))
              try simp only [Act.put]
              try simp only [List.setIfInBounds_toArray]
              try simp only [List.set_cons_succ, List.set_cons_zero]
              refine wpAnyH_take (i := 9) (oi := ⟨some 80, _, _, _, _, _⟩) (v := ?_) rfl (by kernel_rfl) (by kernel_rfl) (by kernel_rfl) (fun _ _ _ h => h) (Or.inl ⟨by rfl, ?_⟩) (by assumption) ?_; rotate_left; focus (intro w hSw; (try dsimp only at hSw); first | (go_simp; done) | (go_simp; with_reducible rfl))
              try simp only [Act.put]
              try simp only [List.setIfInBounds_toArray]
              try simp only [List.set_cons_succ, List.set_cons_zero]
              refine wpAnyH_take (i := 10) (oi := ⟨some 81, _, _, _, _, _⟩) (v := ?_) rfl (by kernel_rfl) (by kernel_rfl) (by kernel_rfl) (fun _ _ _ h => h) (Or.inl ⟨by rfl, ?_⟩) (by assumption) ?_; rotate_left; focus (intro w hSw; (try dsimp only at hSw); first | (go_simp; done) | (go_simp; with_reducible rfl))
              try simp only [Act.put]
              try simp only [List.setIfInBounds_toArray]
              try simp only [List.set_cons_succ, List.set_cons_zero]
              refine wpAnyH_ready (rs := [11]) (by kernel_rfl) (by simp) ?_
              refine AllReadyH.cons (i := 11) (o := ⟨some 82, _, _, _, _, _⟩) rfl (fun K hK => ?_) ?_
              · go_simp
                refine hK.out _ _ ?_ (fun hHeld => ?_)
                · exact ⟨below_ext (below_a1 _ _).drew.drew g0, below_ext (below_a1 _ _).drew.drew g1, below_ext (below_a1 _ _).drew.drew g2, below_ext (below_a1 _ _).drew.drew g3⟩
                try simp only [Act.put]
                try simp only [List.setIfInBounds_toArray]
                try simp only [List.set_cons_succ, List.set_cons_zero]
                refine wpAnyH_ready (rs := [12]) (by kernel_rfl) (by simp) ?_
                refine AllReadyH.cons (i := 12) (o := ⟨some 83, _, _, _, _, _⟩) rfl (fun K hK => ?_) ?_
                · refine step_append_Own rfl (.tmp 71) (.tmp 82) 38 rfl W2.heap.size 28 _ 1 24 Try.underlying38 infoStrs rfl (by decide) ua done.length uc _ (by simp [go_sem]) (by exact (HM10.out.out.alloc _)) _ 1 1 [r.val] (by simp [go_sem]; rfl) (by exact Row.new1 (by simp) rfl rfl) (by intro u hu; simp at hu; subst hu; rfl) (by unfold maxLen; omega) (by omega) (by simp; omega) ?_
                  intro a12 c12 w12 hown12 hg12 hbk12
                  have HM12 := Lib.hid (HM10.out.push Hr.out (by exact (below_a1 _ _).drew.drew) hown12 hg12)
                  have y0 : w12.cell? ⟨pf, 0, none⟩ = some (.pointer (some ⟨fb, 0, none⟩)) := (HFt.out.2.ext HM12.out.below).cell 0
                  have y1 : w12.cell? ⟨fb, 5, none⟩ = some (.slice (some ⟨ab, ao, none⟩) n v.ac) := below_ext HM12.out.below HFt.out.1
                  have y2 : w12.cell? ⟨ob, oo + k, none⟩ = some (.int .i64 (x : Nat)) := by
                    have hrow := HM12.out.od.row
                    rw [show n = od.length by have := Hperm.out.length_eq; simp at this; omega] at hrow
                    obtain ⟨b2, o2, e2, h2⟩ := Row.elem1 (f := intV) hrow Hk.out
                    cases e2; exact h2
                  have y3 : w12.cell? ⟨ab, ao + x, none⟩ = some (.slice r.a r.l.length r.c) := below_ext HM12.out.below Hrc.out
                  refine hK.out _ _ ?_ (fun hHeld => ?_)
                  · exact ⟨y0, y1, y2, y3⟩
                  try simp only [Act.put]
                  try simp only [List.setIfInBounds_toArray]
                  try simp only [List.set_cons_succ, List.set_cons_zero]
                  refine wpAnyH_take (i := 13) (oi := ⟨some 6, _, _, _, _, _⟩) (v := ?_) rfl (by kernel_rfl) (by kernel_rfl) (by kernel_rfl) (fun _ _ _ h => h) (Or.inl ⟨by rfl, ?_⟩) (by assumption) ?_; rotate_left; focus (intro w hSw; (try dsimp only at hSw); first | (go_simp; done) | (go_simp; with_reducible rfl))
                  try simp only [Act.put]
                  try simp only [List.setIfInBounds_toArray]
                  try simp only [List.set_cons_succ, List.set_cons_zero]
                  refine wpAnyH_done (by kernel_rfl) ?_ _
                  clear hHeld g0 g1 g2 g3 y0 y1 y2 y3 hown12 hg12 hbk12
                  go_wp2
                  go_roundg (n - (done.length + 1))
                  case rel => exact ⟨done ++ [x], td.set (x + 1) 1, a12, c12, by rw [List.length_append]; rfl, Lib.hid (by rw [List.length_append]; rfl), HM12, HP10⟩
                  case measure => have := Hq0.out; omega
                exact AllReadyH.nil
              exact AllReadyH.nil
            exact AllReadyH.nil
          · exfalso
            obtain ⟨i, hi, hpi⟩ := LoopG.more (F := ({ W := w8, B := w.heap.size + 1, gb := w.heap.size, ks := ks, E := E, sl := sl, fb := fb, lm := lm, dm := dm, gm := gm } : FC)) HT2.out hP.out hlt
            have := hno i (Hperm.out.mem_iff.2 (List.mem_range.2 hi))
            rw [hpi] at this; cases this
        · go_wp2
          go_ret
          have hex : ∀ i ∈ done, ∃ r, v.all[i]? = some r ∧ r ∈ v.all := fun i hi => by
            obtain ⟨r, hr⟩ := get_some (l := v.all) (i := i) (by have := hP.out.dlt i hi; have := Hn.out; omega)
            exact ⟨r, hr, List.mem_of_getElem? hr⟩
          have hv1 : (done.map (rowD v)).map RowD.val = done.map (valOf v) := by
            rw [List.map_map]
            exact List.map_congr_left fun i hi => by
              obtain ⟨r, hr, _⟩ := hex i hi
              show (rowD v i).val = valOf v i
              rw [rowD_some hr, valOf_some hr]
          have hv2 : (done.map (rowD v)).map RowD.l = done.map (glOf v) := by
            rw [List.map_map]
            exact List.map_congr_left fun i hi => by
              obtain ⟨r, hr, _⟩ := hex i hi
              show (rowD v i).l = glOf v i
              rw [rowD_some hr, glOf_some hr]
          have hw := HW.out
          have s1 := Hb1.out.size
          have s6 := Hb6.out.size
          have s8 := Hb8.out.size
          have hw8' : Below w.heap.size w w8 := (Hb1.out.trans (Hb6.out.mono s1)).trans (Hb8.out.mono (by omega))
          have hkb : Below w.heap.size w8 W2 := HF.out.core.below.toBelow (F := ({ W := w8, B := w.heap.size + 1, gb := w.heap.size, ks := ks, E := E, sl := sl, fb := fb, lm := lm, dm := dm, gm := gm } : FC)) (by show _ ≤ w8.heap.size; omega) (by show _ ≤ fb; omega) (by show _ ≤ lm; omega) (by show _ ≤ dm; omega) (by show _ ≤ gm; omega)
          refine ⟨_, rfl, (hw8'.trans hkb).trans (hM.out.below.mono (by omega)), done.map (rowD v), ua, uc, by rw [List.length_map]; rfl, ?_, fun r hr => ?_, by rw [List.length_map]; omega, fun r hr => ?_, ?_, fun x hx => ?_⟩
          · rw [List.length_map, hv1]; exact hM.out.out.mono (by omega)
          · obtain ⟨i, hi, rfl⟩ := List.mem_map.1 hr
            obtain ⟨r, hr, hm⟩ := hex i hi
            rw [rowD_some hr]; exact ((HF.out.core.rows r hm).ext hM.out.below).row
          · obtain ⟨i, hi, rfl⟩ := List.mem_map.1 hr
            obtain ⟨r, hr, hm⟩ := hex i hi
            rw [rowD_some hr]; exact Hgl.out r hm
          · rw [hv2]
            exact hP.out.seq.congr (fun x y => by rw [mem_outs]; exact HP.out.mem x y) Hks.out
          · rw [hv2]
            exact hP.out.finish (by have := HTold.out; rw [← Hn.out] at this; exact this) hlt ((Hks.out x).2 hx)
end Go.Proofs.Ytnepamdmjppglaa
