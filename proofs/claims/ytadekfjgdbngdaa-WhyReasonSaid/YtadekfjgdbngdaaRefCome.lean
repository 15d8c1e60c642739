/- The document's Come, walked. -/
import Derived.Test.YtadekfjgdbngdaaPlain
import Derived.Test.YtadekfjgdbngdaaRep
namespace Go.Proofs.Ytadekfjgdbngdaa
open Go Go.RowKit

/-- a new slice of ints of which p holds -/
def IntsOf (B : Nat) (p : List Int → Prop) (v : Value) (w' : World) : Prop := ∃ l, p l ∧ NewInts B l v w'

/-- Come's two results -/
def ComeR (B : Nat) (locs : List LocD) (edges : List EdgeD) (p to : Int) (v : Value) (w' : World) : Prop :=
  (¬ (RightG locs edges p ∧ 0 ≤ to ∧ to < locs.length) ∧ v = .tuple #[.slice none 0 0, .int .i64 161]) ∨
  ((RightG locs edges p ∧ 0 ≤ to ∧ to < locs.length) ∧ ∃ x, v = .tuple #[x, .int .i64 0] ∧ IntsOf B (IsCome edges locs.length to.toNat) x w')

/-- an edge lowers nothing -/
def Fine (out : List Int) (e : EdgeD) : Prop := ∀ d, out[e.dst.toNat]? = some d → d ≠ -2 → ∃ s, out[e.src.toNat]? = some s ∧ s ≠ -2 ∧ s ≤ max d 0 + e.deref

theorem rep_set {α : Type} (a b : α) (k m : Nat) : (List.replicate k a ++ List.replicate (m + 1) b).set k a = List.replicate (k + 1) a ++ List.replicate m b := by
  rw [List.set_append_right _ _ (by simp), List.length_replicate, Nat.sub_self, List.replicate_succ, List.set_cons_zero, List.replicate_succ', List.append_assoc]
  rfl

set_option maxRecDepth 20000 in
set_option maxHeartbeats 1000000 in
theorem refCome_any (aL aE : Option Addr) (cL cE : Nat) (p to : Int) (locs : List LocD) (edges : List EdgeD) (w : World) (hL : Row w 5 aL locs.length (locs.flatMap LocD.cells)) (hE : Row w 3 aE edges.length (edges.flatMap EdgeD.cells))
    (hl : locs.length ≤ maxLen) (hl' : edges.length ≤ maxLen) :
    Calls Try.prog 43 #[.agg #[.slice aL locs.length cL, .slice aE edges.length cE, .int .i64 p], .int .i64 to] w (Ret w (ComeR w.heap.size locs edges p to)) := by
  have hl0 := hl
  have hl0' := hl'
  unfold maxLen at hl hl'
  have HL := Lib.hid hL
  have HE := Lib.hid hE
  clear hL hE
  obtain ⟨i0, hi, hz0, hz1, hz2⟩ := info_parts Try.infoInt
  have Hi := Lib.hid hi
  clear hi
  go_enter Try.func43, Try.ntmps43
  go_wp2_with fail
  refine (refRight_any aL aE cL cE p locs edges _ (HL.out.ext (below_a1 _ _)) (HE.out.ext (below_a1 _ _)) hl0 hl0').mono ?_
  rintro e w1 ⟨v, rfl, hb1, right, rfl, hr⟩
  have k0 : Blk w1 w.heap.size #[.slice aL locs.length cL, .slice aE edges.length cE, .int .i64 p] 25 := (Blk.new rfl).ext hb1
  have Hb1 := Lib.hid ((below_a1 _ _).trans (hb1.mono (by simp)))
  have Hsz : Hid (w.heap.size < w1.heap.size) := by have := hb1.size; simp at this; exact this
  have Hr := Lib.hid hr
  clear hb1 hr
  have K0 := Lib.hid k0
  have c0 := k0.cell 0
  have c1 := k0.cell 1
  simp only [List.getElem?_toArray, List.getElem?_cons_zero, List.getElem?_cons_succ] at c0 c1
  clear k0
  cases right
  · go_wp2
    go_ret2
    exact ⟨_, rfl, Hb1.out, .inl ⟨fun h => by have := Hr.out.2 h.1; simp at this, rfl⟩⟩
  · by_cases hto : 0 ≤ to ∧ to < locs.length
    · obtain ⟨ht0, ht1⟩ := hto
      obtain ⟨t, rfl⟩ := Int.eq_ofNat_of_zero_le ht0
      have f1 : decide ((t : Int) < 0) = false := by simp
      have f2 : decide ((locs.length : Int) ≤ (t : Int)) = false := by simp; omega
      have hR : RightG locs edges p := Hr.out.1 rfl
      have hmost := hR.most
      have HR := Lib.hid hR
      clear hR
      go_wp2_with (at_make; refine wpList_make_full _ rfl _ _ 28 rfl w.heap.size 3 i0 (.int .i64 0) 1 Try.underlying28 Hi.out hz0 hz1 _ _ _ _ locs.length rfl rfl rfl rfl ?b1 ?b2 ?b3 ?_)
      case b1 => rw [hz2]; omega
      case b2 => unfold maxLen; omega
      case b3 => exact Hb1.out.size
      intro w2 hown hg
      simp only [toList_madeCells_one] at hown
      obtain ⟨a', cap', he, hown', -, -⟩ := Own.ofOwns hown
      simp only [Value.slice.injEq, true_and] at he
      obtain ⟨rfl, rfl⟩ := he
      generalize hgg : w1.heap.size = g at hown' ⊢
      have Hown := Lib.hid hown'
      have Hb2 := Lib.hid (Hb1.out.grown hg Hb1.out.size (fun k h => by cases h))
      have K2 := Lib.hid (K0.out.grown hg (by simp))
      have Hsz2 : Hid (w.heap.size < g ∧ g < w2.heap.size) := ⟨by rw [← hgg]; exact Hsz.out, by have := hown'.size (by omega) rfl; exact this.2⟩
      clear hown hown' hg K0 c0 c1 Hb1 Hsz hgg
      generalize hn : locs.length = n at *
      have Hn := Lib.hid hn
      clear hn
      go_wp2_with fail
      go_loopw [8] (fun i wr => ∃ k : Nat, k ≤ n ∧ i = .int .i64 k ∧ Hid (Own wr w.heap.size 3 1 (some ⟨g, 0, none⟩) n n (List.replicate k (.int .i64 (-2)) ++ List.replicate (n - k) (.int .i64 0))) ∧ Hid (Below w.heap.size w wr) ∧ Hid (Blk wr w.heap.size #[.slice aL n cL, .slice aE edges.length cE, .int .i64 p] 25)) (fun i _ => n - (intOf i).toNat)
      case atStart => exact ⟨0, Nat.zero_le _, rfl, Hown, Hb2, K2⟩
      case round =>
        clear Hown Hb2 K2
        obtain ⟨k, hk, rfl, hown, hb, hK⟩ := hrel
        by_cases hlt : k < n
        · have h0 := hown.out.at0 hlt
          have hx : (List.replicate k (Value.int .i64 (-2)) ++ List.replicate (n - k) (.int .i64 0))[k]? = some (.int .i64 0) := by rw [List.getElem?_append_right (by rw [List.length_replicate]; exact Nat.le_refl _), List.length_replicate, Nat.sub_self, List.getElem?_replicate, if_pos (by omega)]
          rw [hx] at h0
          obtain ⟨h1, h2, h3, h4⟩ := h0
          have Hx := Lib.hid hx
          clear hx
          go_wp2
          go_roundw
          case rel =>
            refine ⟨k + 1, by omega, by go_num, ?_, hb.out.setCell h3 _, hK.out.other (by have := Hsz2.out.1; show _ ≠ g; omega) _⟩
            have h5 := hown.out.set0 hlt (.int .i64 (-2))
            rw [show n - k = (n - (k + 1)) + 1 from by omega, rep_set] at h5
            exact h5
          case measure => simp [intOf]; omega
        · obtain rfl : k = n := by omega
          have h6 := hown.out
          rw [Nat.sub_self, List.replicate_zero, List.append_nil] at h6
          obtain ⟨h1, h2, h3, h4⟩ := h6.at0 (j := t) (by omega)
          have h2' : wr.cell? ⟨g, t, none⟩ = some (.int .i64 (-2)) := by rw [h2, List.getElem?_replicate, if_pos (by omega)]
          have h7 := h6.set0 (j := t) (by omega) (.int .i64 0)
          have e7 : (List.replicate k (Value.int .i64 (-2))).set t (.int .i64 0) = (Start k t).map (Value.int .i64) := by
            unfold Start; rw [List.map_set, List.map_replicate]
          rw [e7] at h7
          have H7 := Lib.hid h7
          have hb7 := Lib.hid (hb.out.setCell (p := ⟨g, t, none⟩) h3 (.int .i64 0))
          have hK7 := Lib.hid (hK.out.other (p := ⟨g, t, none⟩) (by have := Hsz2.out.1; show _ ≠ g; omega) (.int .i64 0))
          clear h2 h6 h7 e7 hown hb hK
          go_wp2_with fail
          go_loopg [9] (2 * pot (k * 1048576) (Start k t) + 1) (fun m more wr => ∃ out b, more = .bool b ∧ Hid (St edges k t 1048576 out ∧ (b = false → Closed edges out) ∧ m = 2 * pot (k * 1048576) out + (if b then 1 else 0)) ∧ Hid (Own wr w.heap.size 3 1 (some ⟨g, 0, none⟩) k k (out.map (Value.int .i64))) ∧ Hid (Below w.heap.size w wr) ∧ Hid (Blk wr w.heap.size #[.slice aL k cL, .slice aE edges.length cE, .int .i64 p] 25))
          case atStart => exact ⟨Start k t, true, rfl, ⟨St.start (by omega), by simp, rfl⟩, H7, hb7, hK7⟩
          case round =>
            clear H7 hb7 hK7
            obtain ⟨out, b, rfl, hst, hown, hb, hK⟩ := hrel
            cases b
            · go_wp2
              go_ret2
              have hl9 := hst.out.1.len
              have ho9 := hown.out
              refine ⟨_, rfl, hb.out, .inr ⟨⟨HR.out, by omega, by have := Hn.out; omega⟩, .slice (some ⟨g, 0, none⟩) k k, rfl, out, ?_, some ⟨g, 0, none⟩, k, ?_, ?_, fun _ => ⟨_, rfl⟩⟩⟩
              · rw [Hn.out, Int.toNat_natCast]; exact hst.out.1.come (by have := hst.out.2.1; simpa using this)
              · rw [hl9]
              · rw [hl9]; exact ho9
            · go_wp2_with fail
              go_loopw [9, 10] (fun more i wq => ∃ (q : Nat) (cur : List Int) (b : Bool), q ≤ edges.length ∧ i = .int .i64 q ∧ more = .bool b ∧ Hid (St edges k t 1048576 cur ∧ (b = false → cur = out ∧ ∀ (j : Nat) x, j < q → edges[j]? = some x → Fine out x) ∧ (b = true → pot (k * 1048576) cur < pot (k * 1048576) out)) ∧
                Hid (Own wq w.heap.size 3 1 (some ⟨g, 0, none⟩) k k (cur.map (Value.int .i64))) ∧ Hid (Below w.heap.size w wq) ∧ Hid (Blk wq w.heap.size #[.slice aL k cL, .slice aE edges.length cE, .int .i64 p] 25)) (fun _ i _ => edges.length - (intOf i).toNat)
              case atStart => exact ⟨0, out, false, Nat.zero_le _, rfl, rfl, ⟨hst.out.1, fun _ => ⟨rfl, fun j x h => by omega⟩, by simp⟩, hown, hb, hK⟩
              case round =>
                clear hown hb hK
                obtain ⟨q, cur, b, hq, rfl, rfl, hcur, hown, hb, hK⟩ := hrel
                have c1 := hK.out.cell 1
                simp only [List.getElem?_toArray, List.getElem?_cons_zero, List.getElem?_cons_succ] at c1
                by_cases hlt2 : q < edges.length
                · obtain ⟨x, hx⟩ := get_some hlt2
                  have hok := HR.out.edges q x hx
                  rw [Hn.out] at hok
                  obtain ⟨bE, oE, rfl, e1, e2, e3, hbE⟩ := edge_at (HE.out.ext hb.out) hx
                  have Hx := Lib.hid hx
                  have Hok := Lib.hid hok
                  obtain ⟨o1, o2, o3, o4, o5, o6⟩ := hok
                  obtain ⟨xs, xd, xr⟩ := x
                  simp only at e1 e2 e3 o1 o2 o3 o4 o5 o6
                  obtain ⟨sN, rfl⟩ := Int.eq_ofNat_of_zero_le o1
                  obtain ⟨dN, rfl⟩ := Int.eq_ofNat_of_zero_le o3
                  have hcl := hcur.out.1.len
                  obtain ⟨d, hd⟩ := get_some (l := cur) (i := dN) (by omega)
                  obtain ⟨s, hs⟩ := get_some (l := cur) (i := sN) (by omega)
                  obtain ⟨m1, m2, m3, m4⟩ := hown.out.at0 (j := dN) (by omega)
                  obtain ⟨n1, n2, -, -⟩ := hown.out.at0 (j := sN) (by omega)
                  rw [List.getElem?_map, hd] at m2
                  rw [List.getElem?_map, hs] at n2
                  simp only [Option.map_some] at m2 n2
                  have hlowd := hcur.out.1.low _ d hd
                  have hbd := hcur.out.1.bound _ d hd
                  have hcn := cnt_le cur
                  have hdb : d ≤ 68719476736 := by
                    have : cnt cur * 1048576 ≤ 65536 * 1048576 := Nat.mul_le_mul_right _ (by omega)
                    omega
                  have Hd := Lib.hid hd
                  have Hs := Lib.hid hs
                  have Hcl := Lib.hid hcl
                  clear hd hs hx hbd hcn hcl
                  have hb' := hb.out.alloc hb.out.size (.cells #[.int .i64 sN, .int .i64 dN, .int .i64 xr] 45)
                  have hown' := hown.out.alloc (.cells #[.int .i64 sN, .int .i64 dN, .int .i64 xr] 45)
                  have hK' := hK.out.alloc (.cells #[.int .i64 sN, .int .i64 dN, .int .i64 xr] 45)
                  have Hb' := Lib.hid hb'
                  have Hown' := Lib.hid hown'
                  have HK' := Lib.hid hK'
                  have hwg := Hsz2.out.1
                  clear hb' hown' hK'
                  by_cases hd2 : d = -2
                  · have fd : (d == -2) = true := by simpa using hd2
                    have Hd2 := Lib.hid hd2
                    clear hd2
                    go_wp2
                    go_roundw
                    case rel =>
                      refine ⟨q + 1, cur, b, by omega, by go_num, rfl, ⟨hcur.out.1, fun hbf => ⟨(hcur.out.2.1 hbf).1, fun j y hj hy => ?_⟩, hcur.out.2.2⟩, Hown', Hb', HK'⟩
                      rcases Nat.lt_or_ge j q with h | h
                      · exact (hcur.out.2.1 hbf).2 j y h hy
                      · obtain rfl : j = q := by omega
                        have := Hx.out; rw [hy] at this; cases this
                        intro d' hd' hne
                        rw [← (hcur.out.2.1 hbf).1] at hd'
                        have := Hd.out; simp at hd'; rw [this] at hd'; cases hd'
                        exact absurd Hd2.out hne
                    case measure => simp [intOf]; omega
                  · have fd : (d == -2) = false := by simpa using hd2
                    have hd3 : -1 ≤ d := by omega
                    have Hd2 := Lib.hid hd2
                    clear hd2
                    by_cases hlt3 : s = -2 ∨ max d 0 + xr < s
                    · have hrel := hcur.out.1.relax (List.mem_of_getElem? Hx.out) Hok.out (by simpa using o6) (by simpa using Hd.out) Hd2.out (by simpa using Hs.out) hlt3
                      have Hrel := Lib.hid hrel
                      have hset := fun z => (Hown'.out.drewN z).set0 (j := sN) (by omega) (.int .i64 (max d 0 + xr))
                      rw [← List.map_set] at hset
                      have hbs := fun z => (below_drewN Hb'.out z).setCell (p := ⟨g, sN, none⟩) m3 (.int .i64 (max d 0 + xr))
                      have hKs := fun z => (HK'.out.drewN z).other (p := ⟨g, sN, none⟩) (by show _ ≠ g; omega) (.int .i64 (max d 0 + xr))
                      have Hset := Lib.hid hset
                      have Hbs := Lib.hid hbs
                      have HKs := Lib.hid hKs
                      have Hlt3 := Lib.hid hlt3
                      clear hrel hset hbs hKs
                      by_cases hs2 : s = -2
                      · have fs : (s == -2) = true := by simpa using hs2
                        clear hs2 hlt3
                        go_wp2_with fail
                        go_quiet (fail)
                        go_wp2
                        go_roundw
                        case rel =>
                          try rw [show (if d < 0 then (0 : Int) else d) = max d 0 from by omega]
                          exact ⟨q + 1, cur.set sN (max d 0 + xr), true, by omega, by go_num, rfl, ⟨by have := Hrel.out.1; simpa using this, by simp, fun _ => by
                            have h1 := Hrel.out.2
                            simp at h1
                            have h2 : pot (k * 1048576) cur ≤ pot (k * 1048576) out := by
                              cases hbb : b with
                              | false => rw [(hcur.out.2.1 hbb).1]; exact Nat.le_refl _
                              | true => exact Nat.le_of_lt (hcur.out.2.2 hbb)
                            omega⟩, Hset.out _, Hbs.out _, HKs.out _⟩
                        case measure => simp [intOf]; omega
                      · have fs : (s == -2) = false := by simpa using hs2
                        have hl4 : max d 0 + xr < s := by omega
                        clear hs2 hlt3
                        go_wp2_with fail
                        go_quiet (fail)
                        go_wp2
                        go_roundw
                        case rel =>
                          try rw [show (if d < 0 then (0 : Int) else d) = max d 0 from by omega]
                          exact ⟨q + 1, cur.set sN (max d 0 + xr), true, by omega, by go_num, rfl, ⟨by have := Hrel.out.1; simpa using this, by simp, fun _ => by
                            have h1 := Hrel.out.2
                            simp at h1
                            have h2 : pot (k * 1048576) cur ≤ pot (k * 1048576) out := by
                              cases hbb : b with
                              | false => rw [(hcur.out.2.1 hbb).1]; exact Nat.le_refl _
                              | true => exact Nat.le_of_lt (hcur.out.2.2 hbb)
                            omega⟩, Hset.out _, Hbs.out _, HKs.out _⟩
                        case measure => simp [intOf]; omega
                    · have fs : (s == -2) = false := by have : s ≠ -2 := fun h => hlt3 (.inl h); simpa using this
                      have hl4 : ¬ max d 0 + xr < s := fun h => hlt3 (.inr h)
                      have Hlt3 := Lib.hid hlt3
                      clear hlt3
                      go_wp2_with fail
                      go_quiet (fail)
                      go_wp2
                      go_roundw
                      case rel =>
                        refine ⟨q + 1, cur, b, by omega, by go_num, rfl, ⟨hcur.out.1, fun hbf => ⟨(hcur.out.2.1 hbf).1, fun j y hj hy => ?_⟩, hcur.out.2.2⟩, Hown'.out.drewN _, below_drewN Hb'.out _, HK'.out.drewN _⟩
                        rcases Nat.lt_or_ge j q with h | h
                        · exact (hcur.out.2.1 hbf).2 j y h hy
                        · obtain rfl : j = q := by omega
                          have := Hx.out; rw [hy] at this; cases this
                          intro d' hd' hne
                          rw [← (hcur.out.2.1 hbf).1] at hd' ⊢
                          have := Hd.out; simp at hd' ⊢; rw [this] at hd'; cases hd'
                          exact ⟨s, Hs.out, fun h => Hlt3.out (.inl h), by have : ¬ max d 0 + xr < s := fun h => Hlt3.out (.inr h); omega⟩
                      case measure => simp [intOf]; omega
                · obtain rfl : q = edges.length := by omega
                  go_wp2
                  cases b
                  · go_roundg (2 * pot (k * 1048576) out)
                    case measure => have := hst.out.2.2; simp at this; omega
                    case rel =>
                      have h1 := hcur.out.2.1 rfl
                      refine ⟨out, false, rfl, ⟨hst.out.1, fun _ e he => ?_, by simp⟩, by have := hown.out; rw [h1.1] at this; exact this, hb, hK⟩
                      obtain ⟨j, hj, rfl⟩ := List.getElem_of_mem he
                      exact h1.2 j _ hj (List.getElem?_eq_getElem hj)
                  · have h1 := hcur.out.2.2 rfl
                    go_roundg (2 * pot (k * 1048576) cur + 1)
                    case measure => have := hst.out.2.2; simp at this; omega
                    case rel => exact ⟨cur, true, rfl, ⟨hcur.out.1, by simp, by simp⟩, hown, hb, hK⟩
    · go_wp2
      all_goals (go_ret2; exact ⟨_, rfl, Hb1.out, .inl ⟨fun h => hto h.2, rfl⟩⟩)

end Go.Proofs.Ytadekfjgdbngdaa
