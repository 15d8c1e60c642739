/- The law's look of a way, walked. -/
import Derived.Test.YtadekfjgdbngdaaLawO
namespace Go.Proofs.Ytadekfjgdbngdaa
open Go Go.RowKit

theorem LookR.suffix {E : List EdgeD} {l : List Int} {v : Int} (h : LookR E l v) : ∀ k, k < l.length → ∃ u, LookR E (l.drop k) u := by
  induction h with
  | one c => intro k hk; simp at hk; subst hk; exact ⟨0, .one c⟩
  | cons h hb hl ih =>
    intro k hk
    cases k with
    | zero => exact ⟨_, .cons h hb hl⟩
    | succ k => simp only [List.drop_succ_cons]; exact ih k (by simpa using hk)
theorem LookR.high {E : List EdgeD} {n : Nat} (hok : ∀ e ∈ E, EdgeOk n e) {l : List Int} {v : Int} (h : LookR E l v) : v ≤ 1048576 * l.length := by
  induction h with
  | one c => simp
  | cons h hb _ ih =>
    obtain ⟨e, he, _, _, rfl⟩ := hb
    have := (hok e he).2.2.2.2.2
    simp only [List.length_cons] at ih ⊢
    omega

/-- the least Deref of the edges from c to d so far -/
def BestD (L : List EdgeD) (c d b : Int) : Prop := (b = -2 ∧ ∀ e ∈ L, ¬ (e.src = c ∧ e.dst = d)) ∨ (-1 ≤ b ∧ b ≤ 1048576 ∧ (∃ e ∈ L, e.src = c ∧ e.dst = d ∧ e.deref = b) ∧ ∀ e ∈ L, e.src = c → e.dst = d → b ≤ e.deref)
theorem BestD.skip {L : List EdgeD} {c d b : Int} {e : EdgeD} (h : BestD L c d b) (hn : ¬ (e.src = c ∧ e.dst = d)) : BestD (L ++ [e]) c d b := by
  rcases h with ⟨h1, h2⟩ | ⟨h0, h0', ⟨f, hf, hfs⟩, h4⟩
  · refine .inl ⟨h1, fun f hf => ?_⟩
    simp only [List.mem_append, List.mem_singleton] at hf
    rcases hf with hf | rfl
    · exact h2 f hf
    · exact hn
  · refine .inr ⟨h0, h0', ⟨f, by simp [hf], hfs⟩, fun g hg hs hd => ?_⟩
    simp only [List.mem_append, List.mem_singleton] at hg
    rcases hg with hg | rfl
    · exact h4 g hg hs hd
    · exact absurd ⟨hs, hd⟩ hn
theorem BestD.put {L : List EdgeD} {c d b : Int} {e : EdgeD} (h : BestD L c d b) (he : e.src = c ∧ e.dst = d) (h1 : -1 ≤ e.deref) (h2 : e.deref ≤ 1048576) (hb : b = -2 ∨ e.deref < b) : BestD (L ++ [e]) c d e.deref := by
  refine .inr ⟨h1, h2, ⟨e, by simp, he.1, he.2, rfl⟩, fun g hg hs hd => ?_⟩
  simp only [List.mem_append, List.mem_singleton] at hg
  rcases hg with hg | rfl
  · rcases h with ⟨_, k2⟩ | ⟨k0, _, _, k4⟩
    · exact absurd ⟨hs, hd⟩ (k2 g hg)
    · have := k4 g hg hs hd; omega
  · exact Int.le_refl _
theorem BestD.keep {L : List EdgeD} {c d b : Int} {e : EdgeD} (h : BestD L c d b) (hb : b ≠ -2 ∧ b ≤ e.deref) : BestD (L ++ [e]) c d b := by
  rcases h with ⟨k1, _⟩ | ⟨k0, k0', ⟨f, hf, hfs⟩, k4⟩
  · exact absurd k1 hb.1
  · refine .inr ⟨k0, k0', ⟨f, by simp [hf], hfs⟩, fun g hg hs hd => ?_⟩
    simp only [List.mem_append, List.mem_singleton] at hg
    rcases hg with hg | rfl
    · exact k4 g hg hs hd
    · exact hb.2

set_option maxRecDepth 20000 in
set_option maxHeartbeats 4000000 in
theorem lawLook_any (aL aE aW : Option Addr) (cL cE cW : Nat) (p : Int) (locs : List LocD) (edges : List EdgeD) (ws : List Int) (v : Int) (w : World) (hE : Row w 3 aE edges.length (edges.flatMap EdgeD.cells)) (hW : Row w 1 aW ws.length (ws.map (Value.int .i64)))
    (hok : ∀ e ∈ edges, EdgeOk locs.length e) (hl' : edges.length ≤ 1048576) (hlw : ws.length ≤ 1099511627776) (hlook : LookR edges ws v) :
    Calls Try.prog 12 #[.agg #[.slice aL locs.length cL, .slice aE edges.length cE, .int .i64 p], .slice aW ws.length cW] w (Ret w (fun x _ => x = .tuple #[.int .i64 v, .bool true])) := by
  have HE := Lib.hid hE
  have HW := Lib.hid hW
  have Hok := Lib.hid hok
  have Hlook := Lib.hid hlook
  have hne : 0 < ws.length := by cases hlook <;> simp
  clear hE hW hok hlook
  go_enter Try.func12, Try.ntmps12
  go_wp2_with fail
  have hb0 := below_a1 w (.cells #[.slice aL locs.length cL, .slice aE edges.length cE, .int .i64 p] 25)
  have k0 : Blk (w.alloc (.cells #[.slice aL locs.length cL, .slice aE edges.length cE, .int .i64 p] 25)) w.heap.size #[.slice aL locs.length cL, .slice aE edges.length cE, .int .i64 p] 25 := Blk.new rfl
  generalize (w.alloc (.cells #[.slice aL locs.length cL, .slice aE edges.length cE, .int .i64 p] 25)) = W0 at *
  have HB0 := Lib.hid hb0
  have HK0 := Lib.hid k0
  clear hb0 k0
  go_loopw [6, 7] (fun nv kv wr => ∃ (k : Nat) (u : Int), k < ws.length ∧ nv = .int .i64 u ∧ kv = .int .i64 ((k : Int) - 1) ∧ (-1 ≤ u ∧ u ≤ 1152921504606846976) ∧ Hid (LookR edges (ws.drop k) u) ∧ Hid (Below w.heap.size w wr) ∧ Hid (Blk wr w.heap.size #[.slice aL locs.length cL, .slice aE edges.length cE, .int .i64 p] 25)) (fun _ kv _ => (intOf kv + 1).toNat)
  case atStart =>
    refine ⟨ws.length - 1, 0, by omega, rfl, ?_, by omega, ?_, HB0, HK0⟩
    · congr 1; omega
    · refine Lib.hid ?_
      obtain ⟨c, hc⟩ := get_some (l := ws) (i := ws.length - 1) (by omega)
      have : ws.drop (ws.length - 1) = [c] := by
        rw [List.drop_eq_getElem_cons (by omega), show ws.length - 1 + 1 = ws.length from by omega, List.drop_length]
        obtain ⟨_, h2⟩ := List.getElem?_eq_some_iff.1 hc
        rw [h2]
      rw [this]; exact .one c
  case round =>
    obtain ⟨k, u, hk, rfl, rfl, ⟨hu1, hu2⟩, hlk, hb, hK⟩ := hrel
    rcases Nat.eq_zero_or_pos k with hk0 | hk0
    · subst hk0
      have h1 := hlk.out
      rw [List.drop_zero] at h1
      obtain rfl := h1.unique Hlook.out
      go_wp2
      go_ret2
      exact ⟨_, rfl, hb.out, rfl⟩
    · obtain ⟨k, rfl⟩ : ∃ i, k = i + 1 := ⟨k - 1, by omega⟩
      have ek : ((k + 1 : Nat) : Int) - 1 = (k : Int) := by omega
      rw [ek]
      obtain ⟨c, hc⟩ := get_some (l := ws) (i := k) (by omega)
      obtain ⟨d, hd⟩ := get_some (l := ws) (i := k + 1) (by omega)
      have e1 : ws.drop (k + 1) = d :: ws.drop (k + 2) := by
        rw [List.drop_eq_getElem_cons hk]
        obtain ⟨_, h2⟩ := List.getElem?_eq_some_iff.1 hd
        rw [h2]
      have e2 : ws.drop k = c :: d :: ws.drop (k + 2) := by
        rw [List.drop_eq_getElem_cons (by omega), e1]
        obtain ⟨_, h2⟩ := List.getElem?_eq_some_iff.1 hc
        rw [h2]
      obtain ⟨v2, hv2⟩ := Hlook.out.suffix k (by omega)
      have hbest : ∃ b, v2 = max u 0 + b ∧ (∃ e ∈ edges, e.src = c ∧ e.dst = d ∧ e.deref = b) ∧ ∀ e ∈ edges, e.src = c → e.dst = d → b ≤ e.deref := by
        have h1 := hlk.out
        rw [e1] at h1
        rw [e2] at hv2
        cases hv2 with
        | cons h hb hl => obtain rfl := h.unique h1; exact ⟨_, rfl, hb, hl⟩
      obtain ⟨b0, hb0, hb1, hb2⟩ := hbest
      have hhigh := hv2.high Hok.out
      have hlow := hv2.low Hok.out
      have hdl : (ws.drop k).length ≤ ws.length := by simp
      obtain ⟨bW, oW, rfl, w1⟩ := row_int (HW.out.ext hb.out) hc
      obtain ⟨bW', oW', he, w2⟩ := row_int (HW.out.ext hb.out) hd
      cases he
      have Hv2 := Lib.hid hv2
      have Hbest := Lib.hid (And.intro hb1 hb2)
      have hbb : -1 ≤ b0 ∧ b0 ≤ 1048576 := by obtain ⟨e, he, _, _, rfl⟩ := hb1; exact ⟨(Hok.out e he).2.2.2.2.1, (Hok.out e he).2.2.2.2.2⟩
      have hwk : IntKind.i64.wrap (k : Int) = (k : Int) := by simp [IntKind.wrap, IntKind.bits, IntKind.signed]; omega
      have hk1 : (k : Int) < ws.length := by omega
      have hk2 : (k : Int) + 1 < ws.length := by omega
      have hbv : v2 ≤ 1152921504606846976 := by omega
      have HB1 := Lib.hid hb.out
      clear hc hd e1 e2 hv2 hb1 hb2 hhigh ek hlk
      go_wp2_with fail
      go_loopw [8, 9] (fun bv i wr => ∃ (q : Nat) (b : Int), q ≤ edges.length ∧ bv = .int .i64 b ∧ i = .int .i64 q ∧ Hid (BestD (edges.take q) c d b) ∧ Hid (Below w.heap.size w wr) ∧ Hid (Blk wr w.heap.size #[.slice aL locs.length cL, .slice aE edges.length cE, .int .i64 p] 25) ∧ Hid (wr.cell? ⟨bW, oW + k, none⟩ = some (.int .i64 c) ∧ wr.cell? ⟨bW, oW + (k + 1), none⟩ = some (.int .i64 d))) (fun _ i _ => edges.length - (intOf i).toNat)
      case atStart => exact ⟨0, -2, Nat.zero_le _, rfl, rfl, .inl ⟨rfl, fun e he => by simp at he⟩, hb, hK, ⟨w1, w2⟩⟩
      case round =>
        clear hb hK w1 w2
        obtain ⟨q, b, hq, rfl, rfl, hbest, hb, hK, hw⟩ := hrel
        have c1 := hK.out.cell 1
        simp only [List.getElem?_toArray, List.getElem?_cons_zero, List.getElem?_cons_succ] at c1
        by_cases hlt : q < edges.length
        · obtain ⟨x, hx⟩ := get_some hlt
          have hokx := Hok.out x (List.mem_of_getElem? hx)
          obtain ⟨bE, oE, rfl, e1, e2, e3, hbE⟩ := edge_at (HE.out.ext hb.out) hx
          have Hsn := Lib.hid (take_snoc hx)
          clear hx
          obtain ⟨xs, xd, xr⟩ := x
          obtain ⟨o1, o2, o3, o4, o5, o6⟩ := hokx
          simp only at e1 e2 e3 o1 o2 o3 o4 o5 o6
          obtain ⟨w1, w2⟩ := hw.out
          have hbW := cell_lt w1
          simp only at hbW
          have w1' := below_ext (below_a1 wr (.cells #[.int .i64 xs, .int .i64 xd, .int .i64 xr] 45)) w1
          have w2' := below_ext (below_a1 wr (.cells #[.int .i64 xs, .int .i64 xd, .int .i64 xr] 45)) w2
          have Hb' := Lib.hid (fun z => below_drewN (hb.out.alloc hb.out.size (.cells #[.int .i64 xs, .int .i64 xd, .int .i64 xr] 45)) z)
          have HK' := Lib.hid (fun z => (hK.out.alloc (.cells #[.int .i64 xs, .int .i64 xd, .int .i64 xr] 45)).drewN z)
          have Hw' := Lib.hid (fun (z : Nat) => (⟨w1', w2'⟩ : ((wr.alloc (.cells #[.int .i64 xs, .int .i64 xd, .int .i64 xr] 45)).drewN z).cell? ⟨bW, oW + k, none⟩ = some (.int .i64 c) ∧ ((wr.alloc (.cells #[.int .i64 xs, .int .i64 xd, .int .i64 xr] 45)).drewN z).cell? ⟨bW, oW + (k + 1), none⟩ = some (.int .i64 d)))
          have Hskip := Lib.hid (fun h => by rw [Hsn.out]; exact hbest.out.skip h : ¬ (xs = c ∧ xd = d) → BestD (edges.take (q + 1)) c d b)
          have Hput := Lib.hid (fun h1 h2 => by rw [Hsn.out]; exact hbest.out.put (e := ⟨xs, xd, xr⟩) h1 o5 o6 h2 : (xs = c ∧ xd = d) → (b = -2 ∨ xr < b) → BestD (edges.take (q + 1)) c d xr)
          have Hkeep := Lib.hid (fun h => by rw [Hsn.out]; exact hbest.out.keep (e := ⟨xs, xd, xr⟩) h : (b ≠ -2 ∧ b ≤ xr) → BestD (edges.take (q + 1)) c d b)
          clear hb hK hbest hw
          by_cases hs : xs = c
          · have fs : (xs == c) = true := by simpa using hs
            by_cases hdd : xd = d
            · have fd : (xd == d) = true := by simpa using hdd
              have Hsd := Lib.hid (And.intro hs hdd)
              clear hs hdd
              by_cases h2 : b = -2
              · have f2 : (b == -2) = true := by simpa using h2
                have H2 := Lib.hid h2
                clear h2
                go_wp2_with fail
                go_quiet (fail)
                go_wp2
                go_roundw
                case rel => exact ⟨q + 1, xr, by omega, rfl, by go_num, Hput.out Hsd.out (.inl H2.out), Hb'.out _, HK'.out _, Hw'.out _⟩
                case measure => simp [intOf]; omega
              · have f2 : (b == -2) = false := by simpa using h2
                have H2 := Lib.hid h2
                clear h2
                by_cases h3 : xr < b
                · have H3 := Lib.hid h3
                  go_wp2_with fail
                  go_quiet (fail)
                  go_wp2
                  go_roundw
                  case rel => exact ⟨q + 1, xr, by omega, rfl, by go_num, Hput.out Hsd.out (.inr H3.out), Hb'.out _, HK'.out _, Hw'.out _⟩
                  case measure => simp [intOf]; omega
                · have H3 := Lib.hid h3
                  go_wp2_with fail
                  go_quiet (fail)
                  go_wp2
                  go_roundw
                  case rel => exact ⟨q + 1, b, by omega, rfl, by go_num, Hkeep.out ⟨H2.out, by have := H3.out; omega⟩, Hb'.out _, HK'.out _, Hw'.out _⟩
                  case measure => simp [intOf]; omega
            · have fd : (xd == d) = false := by simpa using hdd
              have Hdd := Lib.hid hdd
              clear hs hdd
              go_wp2_with fail
              go_quiet (fail)
              go_wp2
              go_roundw
              case rel => exact ⟨q + 1, b, by omega, rfl, by go_num, Hskip.out (fun h => Hdd.out h.2), Hb'.out _, HK'.out _, Hw'.out _⟩
              case measure => simp [intOf]; omega
          · have fs : (xs == c) = false := by simpa using hs
            have Hs := Lib.hid hs
            clear hs
            go_wp2_with fail
            go_quiet (fail)
            go_wp2
            go_roundw
            case rel => exact ⟨q + 1, b, by omega, rfl, by go_num, Hskip.out (fun h => Hs.out h.1), Hb'.out _, HK'.out _, Hw'.out _⟩
            case measure => simp [intOf]; omega
        · obtain rfl : q = edges.length := by omega
          have hbb : b = b0 := by
            have h1 := hbest.out
            rw [List.take_length] at h1
            obtain ⟨⟨e, he, hs, hdd, hr⟩, hl⟩ := Hbest.out
            rcases h1 with ⟨_, h2⟩ | ⟨_, _, ⟨f, hf, fs, fd, fr⟩, h4⟩
            · exact absurd ⟨hs, hdd⟩ (h2 e he)
            · have k1 := h4 e he hs hdd
              have k2 := hl f hf fs fd
              omega
          subst hbb
          have fb : (b == -2) = false := by simp; omega
          go_wp2
          all_goals
            go_roundw
            case rel => exact ⟨k, v2, by omega, by go_num, rfl, by omega, Hv2, hb, hK⟩
            case measure => first | (simp [intOf]; done) | (simp [intOf]; omega)
end Go.Proofs.Ytadekfjgdbngdaa
