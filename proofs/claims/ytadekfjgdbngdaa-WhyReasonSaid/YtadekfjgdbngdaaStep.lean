/- The document's step down, walked. -/
import Derived.Test.YtadekfjgdbngdaaWhyD
import Derived.Test.YtadekfjgdbngdaaLook
namespace Go.Proofs.Ytadekfjgdbngdaa
open Go Go.RowKit

/-- an edge from c that leaves room -/
def Fits (rest : List Int) (c m : Int) (e : EdgeD) : Prop := e.src = c ∧ ∃ x, rest[e.dst.toNat]? = some x ∧ x ≠ -2 ∧ max x 0 + e.deref ≤ m
/-- the best of the edges so far -/
def Best (L : List EdgeD) (rest : List Int) (c m best room : Int) : Prop := (best = -1 ∧ ∀ f ∈ L, ¬ Fits rest c m f) ∨ (0 ≤ best ∧ IsStep L rest c m best room)
theorem Best.skip {L : List EdgeD} {rest : List Int} {c m best room : Int} {e : EdgeD} (h : Best L rest c m best room) (hn : ¬ Fits rest c m e) : Best (L ++ [e]) rest c m best room := by
  rcases h with ⟨h1, h2⟩ | ⟨h0, f, hf, h1, h2, h3, h4, h5⟩
  · refine .inl ⟨h1, fun f hf => ?_⟩
    simp only [List.mem_append, List.mem_singleton] at hf
    rcases hf with hf | rfl
    · exact h2 f hf
    · exact hn
  · refine .inr ⟨h0, f, by simp [hf], h1, h2, h3, h4, fun g hg hs hx => ?_⟩
    simp only [List.mem_append, List.mem_singleton] at hg
    rcases hg with hg | rfl
    · exact h5 g hg hs hx
    · exact absurd ⟨hs, hx⟩ hn
theorem Best.put {L : List EdgeD} {rest : List Int} {c m best room : Int} {e : EdgeD} (h : Best L rest c m best room) (he : Fits rest c m e) (h0 : 0 ≤ e.dst) (hb : best < 0 ∨ e.dst < best ∨ (e.dst = best ∧ room < m - e.deref)) : Best (L ++ [e]) rest c m e.dst (m - e.deref) := by
  refine .inr ⟨h0, e, by simp, he.1, he.2, rfl, rfl, fun g hg hs hx => ?_⟩
  simp only [List.mem_append, List.mem_singleton] at hg
  rcases hg with hg | rfl
  · rcases h with ⟨_, h2⟩ | ⟨_, f, hf, k1, k2, rfl, rfl, k5⟩
    · exact absurd ⟨hs, hx⟩ (h2 g hg)
    · have := k5 g hg hs hx
      omega
  · exact .inr ⟨rfl, Int.le_refl _⟩
theorem Best.keep {L : List EdgeD} {rest : List Int} {c m best room : Int} {e : EdgeD} (h : Best L rest c m best room) (hb : 0 ≤ best ∧ (best < e.dst ∨ (e.dst = best ∧ m - e.deref ≤ room))) : Best (L ++ [e]) rest c m best room := by
  rcases h with ⟨h1, h2⟩ | ⟨h0, f, hf, k1, k2, rfl, rfl, k5⟩
  · omega
  · refine .inr ⟨h0, f, by simp [hf], k1, k2, rfl, rfl, fun g hg hs hx => ?_⟩
    simp only [List.mem_append, List.mem_singleton] at hg
    rcases hg with hg | rfl
    · exact k5 g hg hs hx
    · omega
theorem Best.done {L : List EdgeD} {rest : List Int} {c m best room : Int} (h : Best L rest c m best room) (hm : ∃ e ∈ L, Fits rest c m e) : IsStep L rest c m best room := by
  rcases h with ⟨_, h2⟩ | ⟨_, h2⟩
  · obtain ⟨e, he, hf⟩ := hm; exact absurd hf (h2 e he)
  · exact h2

set_option maxRecDepth 20000 in
set_option maxHeartbeats 1000000 in
theorem step_any (aL aE aR : Option Addr) (cL cE cR : Nat) (p c m : Int) (locs : List LocD) (edges : List EdgeD) (rest : List Int) (w : World) (hE : Row w 3 aE edges.length (edges.flatMap EdgeD.cells)) (hr : Row w 1 aR rest.length (rest.map (Value.int .i64)))
    (hn : rest.length = locs.length) (hok : ∀ e ∈ edges, EdgeOk locs.length e) (hl' : edges.length ≤ 1099511627776) (hb : ∀ x ∈ rest, -2 ≤ x ∧ x ≤ 2305843009213693952) (hl : locs.length ≤ 1048576) (hm1 : -1 ≤ m) (hm2 : m ≤ 2305843009213693952) (hmore : ∃ e ∈ edges, Fits rest c m e) :
    Calls Try.prog 28 #[.agg #[.slice aL locs.length cL, .slice aE edges.length cE, .int .i64 p], .int .i64 c, .int .i64 m, .slice aR rest.length cR] w (Ret w (fun v _ => ∃ d r, v = .tuple #[.int .i64 d, .int .i64 r] ∧ IsStep edges rest c m d r)) := by
  have HE := Lib.hid hE
  have HR := Lib.hid hr
  have Hok := Lib.hid hok
  have Hbd := Lib.hid hb
  have Hmore := Lib.hid hmore
  have hnr : rest.length ≤ 1048576 := by omega
  have Hn := Lib.hid hn
  clear hE hr hok hb hmore hn
  go_enter Try.func28, Try.ntmps28
  go_wp2_with fail
  have hb0 := below_a1 w (.cells #[.slice aL locs.length cL, .slice aE edges.length cE, .int .i64 p] 25)
  have k0 : Blk (w.alloc (.cells #[.slice aL locs.length cL, .slice aE edges.length cE, .int .i64 p] 25)) w.heap.size #[.slice aL locs.length cL, .slice aE edges.length cE, .int .i64 p] 25 := Blk.new rfl
  generalize (w.alloc (.cells #[.slice aL locs.length cL, .slice aE edges.length cE, .int .i64 p] 25)) = W0 at *
  have HB0 := Lib.hid hb0
  have HK0 := Lib.hid k0
  clear hb0 k0
  go_loopw [10, 11, 12] (fun b r i wr => ∃ (q : Nat) (best room : Int), q ≤ edges.length ∧ b = .int .i64 best ∧ r = .int .i64 room ∧ i = .int .i64 q ∧ (-1 ≤ best ∧ best ≤ 1099511627776 ∧ -1048577 ≤ room ∧ room ≤ 2305843009213693953) ∧ Hid (Best (edges.take q) rest c m best room) ∧ Hid (Below w.heap.size w wr) ∧ Hid (Blk wr w.heap.size #[.slice aL locs.length cL, .slice aE edges.length cE, .int .i64 p] 25)) (fun _ _ i _ => edges.length - (intOf i).toNat)
  case atStart => exact ⟨0, -1, 0, Nat.zero_le _, rfl, rfl, rfl, by omega, .inl ⟨rfl, fun f hf => by simp at hf⟩, HB0, HK0⟩
  case round =>
    obtain ⟨q, best, room, hq, rfl, rfl, rfl, hnum, hbest, hb, hK⟩ := hrel
    have c1 := hK.out.cell 1
    simp only [List.getElem?_toArray, List.getElem?_cons_zero, List.getElem?_cons_succ] at c1
    by_cases hlt : q < edges.length
    · obtain ⟨x, hx⟩ := get_some hlt
      have hokx := Hok.out x (List.mem_of_getElem? hx)
      obtain ⟨bE, oE, rfl, e1, e2, e3, hbE⟩ := edge_at (HE.out.ext hb.out) hx
      have Hx := Lib.hid hx
      have Hsn := Lib.hid (take_snoc hx)
      obtain ⟨xs, xd, xr⟩ := x
      obtain ⟨o1, o2, o3, o4, o5, o6⟩ := hokx
      simp only at e1 e2 e3 o1 o2 o3 o4 o5 o6
      obtain ⟨dN, rfl⟩ := Int.eq_ofNat_of_zero_le o3
      obtain ⟨d, hd⟩ := get_some (l := rest) (i := dN) (by have := Hn.out; omega)
      obtain ⟨hd1, hd2⟩ := Hbd.out d (List.mem_of_getElem? hd)
      obtain ⟨bR, oR, rfl, r1⟩ := row_int (HR.out.ext hb.out) hd
      have r1' := below_ext (below_a1 wr (.cells #[.int .i64 xs, .int .i64 dN, .int .i64 xr] 45)) r1
      have Hd := Lib.hid hd
      have hrl := get_lt hd
      have Hb' := Lib.hid (hb.out.alloc hb.out.size (.cells #[.int .i64 xs, .int .i64 dN, .int .i64 xr] 45))
      have HK' := Lib.hid (hK.out.alloc (.cells #[.int .i64 xs, .int .i64 dN, .int .i64 xr] 45))
      clear hx hd
      have nofit : (xs ≠ c ∨ d = -2 ∨ m < max d 0 + xr) → Best (edges.take (q + 1)) rest c m best room := fun h => by
        rw [Hsn.out]
        refine hbest.out.skip fun ⟨h1, y, hy, hy1, hy2⟩ => ?_
        rw [Int.toNat_natCast, Hd.out] at hy
        cases hy
        simp only at h1 hy2
        omega
      have fit : xs = c → d ≠ -2 → max d 0 + xr ≤ m → Fits rest c m ⟨xs, dN, xr⟩ := fun h1 h2 h3 => ⟨h1, d, by rw [Int.toNat_natCast]; exact Hd.out, h2, h3⟩
      have Hno := Lib.hid nofit
      have Hfit := Lib.hid fit
      clear nofit fit
      by_cases hs : xs = c
      · obtain rfl := hs.symm
        by_cases hd3 : d = -2
        · have fd : (d == -2) = true := by simpa using hd3
          have Hd3 := Lib.hid hd3
          clear hd3
          go_wp2_with fail
          go_quiet (fail)
          go_wp2
          go_roundw
          case rel => exact ⟨q + 1, best, room, by omega, rfl, rfl, by go_num, hnum, Hno.out (.inr (.inl Hd3.out)), below_drewN Hb'.out _, HK'.out.drewN _⟩
          case measure => simp [intOf]; omega
        · have fd : (d == -2) = false := by simpa using hd3
          have Hd3 := Lib.hid hd3
          clear hd3
          by_cases hf : max d 0 + xr ≤ m
          · have Hf := Lib.hid (Hfit.out rfl Hd3.out hf)
            have hput : (best < 0 ∨ (dN : Int) < best ∨ ((dN : Int) = best ∧ room < m - xr)) → Best (edges.take (q + 1)) rest c m dN (m - xr) := fun h => by
              rw [Hsn.out]; exact hbest.out.put Hf.out o3 h
            have hkeep : (0 ≤ best ∧ (best < (dN : Int) ∨ ((dN : Int) = best ∧ m - xr ≤ room))) → Best (edges.take (q + 1)) rest c m best room := fun h => by
              rw [Hsn.out]; exact hbest.out.keep h
            have Hput := Lib.hid hput
            have Hkeep := Lib.hid hkeep
            clear hput hkeep
            go_wp2_with fail
            go_quiet (fail)
            go_wp2
            all_goals
              (try subst_vars)
              go_roundw
              case rel =>
                first
                  | exact ⟨q + 1, _, room, by omega, rfl, rfl, by go_num, hnum, Hkeep.out (by omega), below_drewN Hb'.out _, HK'.out.drewN _⟩
                  | exact ⟨q + 1, dN, m - xr, by omega, rfl, by go_num, by go_num, by omega, Hput.out (by omega), below_drewN Hb'.out _, HK'.out.drewN _⟩
              case measure => simp [intOf]; omega
          · have hf' : m < max d 0 + xr := by omega
            have Hf' := Lib.hid hf'
            go_wp2_with fail
            go_quiet (fail)
            go_wp2
            go_roundw
            case rel => exact ⟨q + 1, best, room, by omega, rfl, rfl, by go_num, hnum, Hno.out (.inr (.inr Hf'.out)), below_drewN Hb'.out _, HK'.out.drewN _⟩
            case measure => simp [intOf]; omega
      · have fs : (xs != c) = true := by simpa using hs
        have Hs := Lib.hid hs
        clear hs
        go_wp2_with fail
        go_quiet (fail)
        go_wp2
        go_roundw
        case rel => exact ⟨q + 1, best, room, by omega, rfl, rfl, by go_num, hnum, Hno.out (.inl Hs.out), below_drewN Hb'.out _, HK'.out.drewN _⟩
        case measure => simp [intOf]; omega
    · obtain rfl : q = edges.length := by omega
      go_wp2
      go_ret2
      have := hbest.out
      rw [List.take_length] at this
      exact ⟨_, rfl, hb.out, best, room, rfl, this.done Hmore.out⟩
end Go.Proofs.Ytadekfjgdbngdaa
