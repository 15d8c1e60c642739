/- The document's escapes, walked. -/
import Derived.Test.YtadekfjgdbngdaaEsc
namespace Go.Proofs.Ytadekfjgdbngdaa
open Go Go.RowKit

def lpOf (locs : List LocD) (i : Nat) : Int := (locs[i]?.map LocD.loop).getD 0
theorem lpOf_some {locs : List LocD} {i : Nat} {x : LocD} (h : locs[i]? = some x) : lpOf locs i = x.loop := by simp [lpOf, h]

set_option maxRecDepth 20000 in
set_option maxHeartbeats 1000000 in
theorem outlives_any (aL aE aB : Option Addr) (cL cE cB : Nat) (p : Int) (locs : List LocD) (edges : List EdgeD) (out : List Bool) (r l : Nat) (w : World) (hL : Row w 5 aL locs.length (locs.flatMap LocD.cells)) (hB : Row w 1 aB out.length (out.map Value.bool))
    (hlo : out.length = locs.length) (hr : r < locs.length) (hl : l < locs.length) :
    Calls Try.prog 44 #[.agg #[.slice aL locs.length cL, .slice aE edges.length cE, .int .i64 p], .slice aB out.length cB, .int .i64 r, .int .i64 l] w (Ret w (IsB (OutL (lpOf locs) out r l))) := by
  obtain ⟨x, hx⟩ := get_some hr
  obtain ⟨y, hy⟩ := get_some hl
  obtain ⟨o, ho⟩ := get_some (l := out) (i := r) (by omega)
  obtain ⟨b, off, rfl, -, -, -, -, x4, hb⟩ := loc_at hL hx
  obtain ⟨b', off', hbb, -, -, -, -, y4, -⟩ := loc_at hL hy
  cases hbb
  obtain ⟨bb, ob, rfl, o1⟩ := hB.elem1 ho
  have hbb := cell_lt o1
  have e1 := lpOf_some hx
  have e2 := lpOf_some hy
  have hro : (r : Int) < out.length := by omega
  have Ho := Lib.hid ho
  have E1 := Lib.hid e1
  have E2 := Lib.hid e2
  have Hlo := Lib.hid hlo
  clear hL hB hx hy ho e1 e2 hlo
  by_cases h2 : r < 2
  · have f1 : decide ((r : Int) < 2) = true := by simp; omega
    go_enter Try.func44, Try.ntmps44
    go_wp2_with fail
    go_quiet (fail)
    go_wp2
    go_ret
    exact ⟨_, rfl, below_drewN (below_a1 _ _) _, isB_true (.inl h2)⟩
  · have f1 : decide ((r : Int) < 2) = false := by simp; omega
    cases o
    · by_cases h3 : x.loop < y.loop
      · go_enter Try.func44, Try.ntmps44
        go_wp2_with fail
        go_quiet (fail)
        go_wp2
        go_ret
        exact ⟨_, rfl, below_drewN (below_a1 _ _) _, isB_of (by simp [OutL, E1.out, E2.out, h3])⟩
      · go_enter Try.func44, Try.ntmps44
        go_wp2_with fail
        go_quiet (fail)
        go_wp2
        go_ret
        exact ⟨_, rfl, below_drewN (below_a1 _ _) _, isB_of (by simp [OutL, E1.out, E2.out, h2, Ho.out] <;> omega)⟩
    · go_enter Try.func44, Try.ntmps44
      go_wp2_with fail
      go_quiet (fail)
      go_wp2
      go_ret
      exact ⟨_, rfl, below_drewN (below_a1 _ _) _, isB_true (.inr (.inl Ho.out))⟩

theorem come_exists {E : List EdgeD} {n to D : Nat} (ht : to < n) (hok : ∀ e ∈ E, EdgeOk n e) (hD : ∀ e ∈ E, e.deref ≤ D) : ∃ out, IsCome E n to out := by
  have key : ∀ (m : Nat) (out : List Int), pot (n * D) out ≤ m → St E n to D out → ∃ out', St E n to D out' ∧ Closed E out' := by
    intro m
    induction m with
    | zero =>
      intro out hm hs
      by_cases hc : Closed E out
      · exact ⟨out, hs, hc⟩
      · exfalso
        apply hc
        intro e he d hd hd2
        obtain ⟨s, hs1⟩ := get_some (l := out) (i := e.src.toNat) (by rw [hs.len]; have := hok e he; unfold EdgeOk at this; omega)
        by_cases hlt : s = -2 ∨ max d 0 + e.deref < s
        · have := (hs.relax he (hok e he) (hD e he) hd hd2 hs1 hlt).2; omega
        · exact ⟨s, hs1, fun h => hlt (.inl h), by have : ¬ max d 0 + e.deref < s := fun h => hlt (.inr h); omega⟩
    | succ m ih =>
      intro out hm hs
      by_cases hc : Closed E out
      · exact ⟨out, hs, hc⟩
      · have hex : ∃ e d s, e ∈ E ∧ out[e.dst.toNat]? = some d ∧ d ≠ -2 ∧ out[e.src.toNat]? = some s ∧ (s = -2 ∨ max d 0 + e.deref < s) := by
          refine Classical.byContradiction fun hno => hc fun e he d hd hd2 => ?_
          obtain ⟨s, hs1⟩ := get_some (l := out) (i := e.src.toNat) (by rw [hs.len]; have := hok e he; unfold EdgeOk at this; omega)
          by_cases hlt : s = -2 ∨ max d 0 + e.deref < s
          · exact absurd ⟨e, d, s, he, hd, hd2, hs1, hlt⟩ hno
          · exact ⟨s, hs1, fun h => hlt (.inl h), by have : ¬ max d 0 + e.deref < s := fun h => hlt (.inr h); omega⟩
        obtain ⟨e, d, s, he, hd, hd2, hs1, hlt⟩ := hex
        have hr := hs.relax he (hok e he) (hD e he) hd hd2 hs1 hlt
        exact ih _ (by omega) hr.1
  obtain ⟨out, h1, h2⟩ := key _ _ (Nat.le_refl _) (St.start (E := E) (D := D) ht)
  exact ⟨out, h1.come h2⟩

/-- what comes to each, for all of a graph -/
def ComeAll (edges : List EdgeD) (n : Nat) (C : Nat → List Int) : Prop := ∀ r, r < n → IsCome edges n r (C r)

theorem comeAll_exists {edges : List EdgeD} {n D : Nat} (hok : ∀ e ∈ edges, EdgeOk n e) (hD : ∀ e ∈ edges, e.deref ≤ D) : ∃ C, ComeAll edges n C := by
  have h : ∀ r, ∃ out, r < n → IsCome edges n r out := fun r => by
    by_cases hr : r < n
    · obtain ⟨out, ho⟩ := come_exists hr hok hD
      exact ⟨out, fun _ => ho⟩
    · exact ⟨[], fun h => absurd h hr⟩
  exact ⟨fun r => Classical.choose (h r), fun r hr => Classical.choose_spec (h r) hr⟩

/-- a new slice of bools that tells what escapes -/
def EscV (B : Nat) (locs : List LocD) (C : Nat → List Int) (v : Value) (w' : World) : Prop :=
  ∃ (bs : List Bool) (g cap : Nat), v = .slice (some ⟨g, 0, none⟩) bs.length cap ∧ Own w' B 4 1 (some ⟨g, 0, none⟩) bs.length cap (bs.map Value.bool) ∧ bs.length = locs.length ∧ ∀ i, bs[i]? = some true ↔ Esc locs.length C (lpOf locs) i

theorem Try.infoBool : (Try.prog.info? 4).map (fun i => (i.zero, i.size, i.bytes)) = some (some (.bool false), 1, 1) := by kernel_rfl

set_option maxRecDepth 20000 in
set_option maxHeartbeats 2000000 in
theorem refEscapes_any (aL aE : Option Addr) (cL cE : Nat) (p : Int) (locs : List LocD) (edges : List EdgeD) (C : Nat → List Int) (w : World) (hL : Row w 5 aL locs.length (locs.flatMap LocD.cells)) (hE : Row w 3 aE edges.length (edges.flatMap EdgeD.cells))
    (hR : RightG locs edges p) (hC : ComeAll edges locs.length C) (hle : edges.length ≤ maxLen) :
    Calls Try.prog 29 #[.agg #[.slice aL locs.length cL, .slice aE edges.length cE, .int .i64 p]] w (Ret w (EscV w.heap.size locs C)) := by
  have hmost := hR.most
  have htwo := hR.two
  have HR := Lib.hid hR
  have HC := Lib.hid hC
  have HL := Lib.hid hL
  have HE := Lib.hid hE
  clear hL hE hR hC
  obtain ⟨i0, hi, hz0, hz1, hz2⟩ := info_parts Try.infoBool
  have Hi := Lib.hid hi
  clear hi
  go_enter Try.func29, Try.ntmps29
  go_wp2_with (at_make; refine wpList_make_full _ rfl _ _ 66 rfl w.heap.size 4 i0 (.bool false) 1 Try.underlying66 Hi.out hz0 hz1 _ _ _ _ locs.length rfl rfl rfl rfl ?b1 ?b2 ?b3 ?_)
  case b1 => rw [hz2]; omega
  case b2 => unfold maxLen; omega
  case b3 => simp
  intro w1 hown hg
  simp only [toList_madeCells_one] at hown
  obtain ⟨a', cap', he, hown', -, -⟩ := Own.ofOwns hown
  simp only [Value.slice.injEq, true_and] at he
  obtain ⟨rfl, rfl⟩ := he
  have hsz := (hown'.size (by omega) rfl).2
  have hK : Blk w1 w.heap.size #[.slice aL locs.length cL, .slice aE edges.length cE, .int .i64 p] 25 := (Blk.new rfl).grown hg (by simp)
  have hb := (below_a1 w (.cells #[.slice aL locs.length cL, .slice aE edges.length cE, .int .i64 p] 25)).grown hg (by simp) (fun k h => by cases h)
  have e0 : List.replicate locs.length (Value.bool false) = (List.replicate locs.length false).map Value.bool := by rw [List.map_replicate]
  rw [e0] at hown'
  have Hown := Lib.hid hown'
  have HK := Lib.hid hK
  have Hb := Lib.hid hb
  clear hown hown' hg hK hb e0
  generalize hg : w.heap.size + 1 = g at *
  have hwg : w.heap.size < g := by omega
  clear hg
  have Hs0 : Hid (EscSt locs.length C (lpOf locs) (List.replicate locs.length false)) := ⟨by simp, fun i hi => by rw [List.getElem?_replicate] at hi; split at hi <;> simp at hi⟩
  go_wp2_with fail
  go_loopg [4] (2 * nf (List.replicate locs.length false) + 1) (fun m more wr => ∃ (out : List Bool) (b : Bool), more = .bool b ∧ Hid (EscSt locs.length C (lpOf locs) out ∧ (b = false → ∀ r, r < locs.length → Told locs.length C (lpOf locs) out r locs.length) ∧ m = 2 * nf out + (if b then 1 else 0)) ∧
    Hid (Own wr w.heap.size 4 1 (some ⟨g, 0, none⟩) locs.length locs.length (out.map Value.bool)) ∧ Hid (Below w.heap.size w wr) ∧ Hid (Blk wr w.heap.size #[.slice aL locs.length cL, .slice aE edges.length cE, .int .i64 p] 25))
  case atStart => exact ⟨_, true, rfl, ⟨Hs0.out, by simp, rfl⟩, Hown, Hb, HK⟩
  case round =>
    clear Hown Hb HK Hs0
    obtain ⟨out, b, rfl, hst, hown, hb, hK⟩ := hrel
    cases b
    · go_wp2
      go_ret
      have hl := hst.out.1.len
      exact ⟨.slice (some ⟨g, 0, none⟩) locs.length locs.length, rfl, hb.out, out, g, locs.length, by rw [hl], by rw [hl]; exact hown.out, hl, hst.out.1.done (by have := hst.out.2.1; simpa using this)⟩
    · go_wp2_with fail
      go_loopw [4, 5] (fun more i wq => ∃ (cur : List Bool) (b : Bool) (k : Nat), k ≤ locs.length ∧ i = .int .i64 k ∧ more = .bool b ∧ Hid (EscSt locs.length C (lpOf locs) cur ∧ (b = false → cur = out ∧ ∀ r, r < k → Told locs.length C (lpOf locs) cur r locs.length) ∧ (b = true → nf cur < nf out)) ∧
        Hid (Own wq w.heap.size 4 1 (some ⟨g, 0, none⟩) locs.length locs.length (cur.map Value.bool)) ∧ Hid (Below w.heap.size w wq) ∧ Hid (Blk wq w.heap.size #[.slice aL locs.length cL, .slice aE edges.length cE, .int .i64 p] 25)) (fun _ i _ => locs.length - (intOf i).toNat)
      case atStart => exact ⟨out, false, 0, Nat.zero_le _, rfl, rfl, ⟨hst.out.1, fun _ => ⟨rfl, fun r h => by omega⟩, by simp⟩, hown, hb, hK⟩
      case round =>
        clear hown hb hK
        obtain ⟨cur, b, k, hk, rfl, rfl, hcur, hown, hb, hK⟩ := hrel
        have c0 := hK.out.cell 0
        have c1 := hK.out.cell 1
        have c2 := hK.out.cell 2
        have ck := hK.out.lt
        simp only [List.getElem?_toArray, List.getElem?_cons_zero, List.getElem?_cons_succ] at c0 c1 c2
        by_cases hlt : k < locs.length
        · go_wp2_with fail
          have hrc := refCome_any aL aE cL cE p k locs edges wr (HL.out.ext hb.out) (HE.out.ext hb.out) (by unfold maxLen; omega) hle
          refine hrc.mono ?_
          clear hrc
          rintro e w2 ⟨v, rfl, hb2, hr2⟩
          rcases hr2 with ⟨hno, _⟩ | ⟨_, x, rfl, l, hl, a, cap, rfl, hownC, -⟩
          · exact absurd ⟨by have := HR.out; exact this, by omega, by omega⟩ hno
          · rw [Int.toNat_natCast] at hl
            obtain rfl := hl.unique (HC.out k hlt)
            have hll := hl.len
            have Hll := Lib.hid hll
            have hag : blockOf a ≠ some g := fun he => by have h1 := hownC.base he; have h2 : g < wr.heap.size := (hown.out.size (by omega) rfl).2; omega
            have Hag := Lib.hid hag
            clear hag
            have Hb2 := Lib.hid (hb.out.trans (hb2.mono hb.out.size))
            have Hown2 := Lib.hid (hown.out.ext hb2)
            have HK2 := Lib.hid (hK.out.ext hb2)
            have HC2 := Lib.hid hownC
            have hw2 := hb2.size
            have c02 := below_ext hb2 c0
            have c12 := below_ext hb2 c1
            have c22 := below_ext hb2 c2
            have Hb2w := Lib.hid hb2
            rw [hll] at hownC
            clear c0 c1 c2 hb2 hownC hll hl hown hb hK
            go_wp2_with fail
            go_loopw [4, 8] (fun more i wz => ∃ (cur2 : List Bool) (b2 : Bool) (l : Nat), 2 ≤ l ∧ l ≤ locs.length ∧ i = .int .i64 l ∧ more = .bool b2 ∧ Hid (EscSt locs.length C (lpOf locs) cur2 ∧ (b2 = false → b = false ∧ cur2 = out ∧ Told locs.length C (lpOf locs) cur2 k l) ∧ (b2 = true → nf cur2 < nf out)) ∧
              Hid (Own wz w.heap.size 4 1 (some ⟨g, 0, none⟩) locs.length locs.length (cur2.map Value.bool)) ∧ Hid (Below w.heap.size w wz) ∧ Hid (Blk wz w.heap.size #[.slice aL locs.length cL, .slice aE edges.length cE, .int .i64 p] 25) ∧ Hid (Row wz 1 a (C k).length ((C k).map (Value.int .i64)) ∧ blockOf a ≠ some g)) (fun _ i _ => locs.length - (intOf i).toNat)
            case atStart => exact ⟨cur, b, 2, by omega, by omega, rfl, rfl, ⟨hcur.out.1, fun hbf => ⟨hbf, (hcur.out.2.1 hbf).1, fun j h2 hj => by omega⟩, hcur.out.2.2⟩, Hown2, Hb2, HK2, ⟨HC2.out.row, Hag.out⟩⟩
            case round =>
              clear Hown2 Hb2 HK2 HC2 c02 c12 c22
              obtain ⟨cur2, b2, l, hl2, hln, rfl, rfl, hcur2, hown, hb, hK, hrow⟩ := hrel
              have c0 := hK.out.cell 0
              have c1 := hK.out.cell 1
              have c2 := hK.out.cell 2
              have ck := hK.out.lt
              simp only [List.getElem?_toArray, List.getElem?_cons_zero, List.getElem?_cons_succ] at c0 c1 c2
              by_cases hlt2 : l < locs.length
              · obtain ⟨v, hv⟩ := get_some (l := C k) (i := l) (by rw [Hll.out]; exact hlt2)
                obtain ⟨ab, ao, rfl, v1⟩ := hrow.out.1.elem1 hv
                obtain ⟨o, ho⟩ := get_some (l := cur2) (i := l) (by rw [hcur2.out.1.len]; exact hlt2)
                obtain ⟨m1, m2, m3, m4⟩ := hown.out.at0 (j := l) hlt2
                rw [List.getElem?_map, ho] at m2
                simp only [Option.map_some] at m2
                have hCl : (l : Int) < (C k).length := by have := Hll.out; omega
                have Hv := Lib.hid hv
                have Ho := Lib.hid ho
                clear hv ho
                have skip : (v = -1 → OutL (lpOf locs) cur2 k l → cur2[l]? = some true) → Hid (EscSt locs.length C (lpOf locs) cur2 ∧ (b2 = false → b = false ∧ cur2 = out ∧ Told locs.length C (lpOf locs) cur2 k (l + 1)) ∧ (b2 = true → nf cur2 < nf out)) := fun hno =>
                  ⟨hcur2.out.1, fun hbf => ⟨(hcur2.out.2.1 hbf).1, (hcur2.out.2.1 hbf).2.1, fun j h2 hj hjn hc ho' => by
                    rcases Nat.lt_or_ge j l with h3 | h3
                    · exact (hcur2.out.2.1 hbf).2.2 j h2 h3 hjn hc ho'
                    · obtain rfl : j = l := by omega
                      rw [Hv.out] at hc; simp at hc; exact hno hc ho'⟩, hcur2.out.2.2⟩
                have Skip := Lib.hid skip
                clear skip
                by_cases hv1 : v = -1
                · have fv : (v == -1) = true := by simpa using hv1
                  have Hv1 := Lib.hid hv1
                  clear hv1
                  cases o
                  · have hlen2 := hcur2.out.1.len
                    have hro := hown.out.row
                    have hol := outlives_any aL aE (some ⟨g, 0, none⟩) cL cE locs.length p locs edges cur2 k l wr (HL.out.ext hb.out) (by rw [hlen2]; exact hro) hlen2 hlt hlt2
                    rw [hlen2] at hol
                    have Hol := Lib.hid hol
                    have Hlen2 := Lib.hid hlen2
                    clear hol hlen2 hro
                    go_wp2_with fail
                    refine Hol.out.mono ?_
                    rintro e w3 ⟨v, rfl, hb3, b3, rfl, hb3r⟩
                    have Hb3 := Lib.hid (hb.out.trans (hb3.mono hb.out.size))
                    have Hown3 := Lib.hid (hown.out.ext hb3)
                    have HK3 := Lib.hid (hK.out.ext hb3)
                    have Hrow3 : Hid (Row w3 1 (some ⟨ab, ao, none⟩) (C k).length ((C k).map (Value.int .i64)) ∧ blockOf (some ⟨ab, ao, none⟩) ≠ some g) := ⟨hrow.out.1.ext hb3, hrow.out.2⟩
                    have Hb3r := Lib.hid hb3r
                    obtain ⟨q1, q2, q3, q4⟩ := Hown3.out.at0 (j := l) hlt2
                    rw [List.getElem?_map, Ho.out] at q2
                    simp only [Option.map_some] at q2
                    clear hb3 hb3r m1 m2 m3 m4 c0 c1 c2 ck v1
                    cases b3
                    · go_wp2
                      go_roundw
                      case rel => exact ⟨cur2, b2, l + 1, by omega, by omega, by go_num, rfl, Skip.out (fun _ ho' => by have := Hb3r.out.2 ho'; simp at this), Hown3, Hb3, HK3, Hrow3⟩
                      case measure => simp [intOf]; omega
                    · have hOut : OutL (lpOf locs) cur2 k l := by have := Hb3r.out; simpa using this
                      have hput := hcur2.out.1.put hl2 hlt2 hlt (by rw [Hv.out, Hv1.out]) hOut
                      have hnf := nf_set Ho.out
                      have hset := Hown3.out.set0 (j := l) hlt2 (.bool true)
                      rw [← List.map_set] at hset
                      have hbs := Hb3.out.setCell (p := ⟨g, l, none⟩) q3 (.bool true)
                      have hKs := HK3.out.other (p := ⟨g, l, none⟩) (by show _ ≠ g; omega) (.bool true)
                      have hrs : Row (w3.setCell ⟨g, l, none⟩ (.bool true)) 1 (some ⟨ab, ao, none⟩) (C k).length ((C k).map (Value.int .i64)) := Hrow3.out.1.setCell_other Hrow3.out.2 _
                      have Hput := Lib.hid hput
                      have Hnf := Lib.hid hnf
                      have Hset := Lib.hid hset
                      have Hbs := Lib.hid hbs
                      have HKs := Lib.hid hKs
                      have Hrs : Hid (Row (w3.setCell ⟨g, l, none⟩ (.bool true)) 1 (some ⟨ab, ao, none⟩) (C k).length ((C k).map (Value.int .i64)) ∧ blockOf (some ⟨ab, ao, none⟩) ≠ some g) := ⟨hrs, Hrow3.out.2⟩
                      clear hOut hput hnf hset hbs hKs hrs
                      go_wp2
                      go_roundw
                      case rel =>
                        refine ⟨cur2.set l true, true, l + 1, by omega, by omega, by go_num, rfl, ⟨Hput.out, by simp, fun _ => ?_⟩, Hset, Hbs, HKs, Hrs⟩
                        have := Hnf.out
                        cases hbb : b2 with
                        | false => have := (hcur2.out.2.1 hbb).2.1; subst this; omega
                        | true => have := hcur2.out.2.2 hbb; omega
                      case measure => simp [intOf]; omega
                  · go_wp2
                    go_roundw
                    case rel => exact ⟨cur2, b2, l + 1, by omega, by omega, by go_num, rfl, Skip.out (fun _ _ => Ho.out), hown, hb, hK, hrow⟩
                    case measure => simp [intOf]; omega
                · have fv : (v == -1) = false := by simpa using hv1
                  have Hv1 := Lib.hid hv1
                  clear hv1
                  go_wp2
                  go_roundw
                  case rel => exact ⟨cur2, b2, l + 1, by omega, by omega, by go_num, rfl, Skip.out (fun h => absurd h Hv1.out), hown, hb, hK, hrow⟩
                  case measure => simp [intOf]; omega
              · obtain rfl : l = locs.length := by omega
                go_wp2
                go_roundw
                case rel =>
                  refine ⟨cur2, b2, k + 1, by omega, by go_num, rfl, ⟨hcur2.out.1, fun hbf => ⟨(hcur2.out.2.1 hbf).2.1, fun r hr => ?_⟩, hcur2.out.2.2⟩, hown, hb, hK⟩
                  obtain ⟨t1, t2, t3⟩ := hcur2.out.2.1 hbf
                  rcases Nat.lt_or_ge r k with h3 | h3
                  · have h4 := hcur.out.2.1 t1
                    rw [t2]; rw [h4.1] at h4; exact h4.2 r h3
                  · obtain rfl : r = k := by omega
                    exact t3
                case measure => simp [intOf]; omega
        · obtain rfl : k = locs.length := by omega
          go_wp2
          cases b
          · go_roundg (2 * nf out)
            case measure => have := hst.out.2.2; simp at this; omega
            case rel =>
              have h1 := hcur.out.2.1 rfl
              have h2 := hcur.out.1
              have h3 := hown.out
              rw [h1.1] at h2 h3 h1
              exact ⟨out, false, rfl, ⟨h2, fun _ => h1.2, by simp⟩, h3, hb, hK⟩
          · have h1 := hcur.out.2.2 rfl
            go_roundg (2 * nf cur + 1)
            case measure => have := hst.out.2.2; simp at this; omega
            case rel => exact ⟨cur, true, rfl, ⟨hcur.out.1, by simp, by simp⟩, hown, hb, hK⟩

end Go.Proofs.Ytadekfjgdbngdaa
