/- Who reaches, and whether a node reaches itself: the program's Users and Round, walked. -/
import Derived.Test.YtnepamdmjppglaaKeys
namespace Go.Proofs.Ytnepamdmjppglaa
open Go Go.RowKit

theorem Pairs.turned {l : List NodeD} {E : List (Nm × Nm)} (h : Pairs l true E) {x y : Nm} : Rch (outs E) x y ↔ Rch (G l) y x := by
  constructor
  · intro hr; exact hr.flip fun a b hb => (h.mem b a).1 (mem_outs.1 hb)
  · intro hr; exact hr.flip fun a b hb => mem_outs.2 ((h.mem a b).2 hb)
theorem Pairs.plain {l : List NodeD} {E : List (Nm × Nm)} (h : Pairs l false E) {x y : Nm} : Rch (outs E) x y ↔ Rch (G l) x y := by
  constructor
  · intro hr; exact hr.congr fun a b hb => (h.mem a b).1 (mem_outs.1 hb)
  · intro hr; exact hr.congr fun a b hb => mem_outs.2 ((h.mem a b).2 hb)
theorem Pairs.small {l : List NodeD} {t : Bool} {E : List (Nm × Nm)} (h : Pairs l t E) (hl : SmallN l) : E.length ≤ 1048576 := by
  have h1 := hl.tot; unfold M20 at h1; have := h.len; omega

set_option maxHeartbeats 1000000 in
theorem users_any (a an : Option Addr) (c cn : Nat) (l : List NodeD) (st : List Nm) (w : World) (hn : NodesAt w a l) (hl : SmallN l) (hr : Row w 1 an st.length (st.map strV)) (hst : st.length ≤ 1048576) (hln : ∀ n ∈ st, n.length ≤ maxLen) :
    Calls Try.prog 19 #[.slice a l.length c, .slice an st.length cn] w (Ret w fun v w' => ∃ (us : List Nm) (a' : Option Addr) (c' : Nat), v = .slice a' us.length c' ∧ Own w' w.heap.size 9 1 a' us.length c' (us.map strV) ∧ us.Pairwise (fun x y => x < y) ∧ us.length ≤ 2097152 ∧ ∀ x, x ∈ us ↔ x ∈ names l ∧ ∃ n ∈ st, Rch (G l) x n) := by
  have hmade := made_any a c l true w hn hl
  have HR := Lib.hid hr
  have HL := Lib.hid hl
  have Hln := Lib.hid hln
  clear hn hl hr hln
  go_enter Try.func19, Try.ntmps19
  go_wp2_with fail
  refine hmade.mono ?_
  clear hmade
  rintro e w1 ⟨_, rfl, hb1, gb, ks, E, sl, rfl, rfl, hG, hks, hkl, hP⟩
  have hE := hP.small HL.out
  have hreach := reach_any w.heap.size an cn st w1 _ ks E sl hG (HR.out.ext hb1) hst hE Hln.out hG.map.klen
  have Hks := Lib.hid hks
  have HP := Lib.hid hP
  have Hb1 := Lib.hid hb1
  clear hks hP hb1 hG
  go_wp2_with fail
  refine hreach.mono ?_
  clear hreach
  rintro e w2 ⟨_, rfl, hb2, ob, ko, rfl, hob, hI, hkol, hko⟩
  have hk := keysI_call (some ob) w2
  have hs := sortedI ob ko _ w2 hI hkol
  have Hko := Lib.hid hko
  have Hn := Lib.hid hI.nodup
  have Hb2 := Lib.hid hb2
  clear hko hI hb2
  go_wp2_with fail
  refine hk.mono ?_
  rintro e w3 ⟨rfl, rfl⟩
  clear hk
  go_wp2_with fail
  refine hs.mono ?_
  rintro e w4 ⟨a4, c4, rfl, ho, hb4⟩
  go_wp2
  go_ret
  have hbw := Hb1.out.trans (Hb2.out.mono Hb1.out.size)
  refine ⟨_, rfl, hbw.trans (hb4.mono hbw.size), srt ko, a4, c4, by rw [srt_len]; rfl, by rw [srt_len]; exact ho.mono hbw.size, srt_rising Hn.out, by rw [srt_len]; exact hkol, fun x => ?_⟩
  rw [mem_srt, Hko.out x, Hks.out x]
  constructor
  · rintro ⟨h1, n, h2, h3⟩; exact ⟨h1, n, h2, HP.out.turned.1 h3⟩
  · rintro ⟨h1, n, h2, h3⟩; exact ⟨h1, n, h2, HP.out.turned.2 h3⟩

set_option maxHeartbeats 1000000 in
theorem round_any (a : Option Addr) (c : Nat) (l : List NodeD) (x : Nm) (w : World) (hn : NodesAt w a l) (hl : SmallN l) (hx : x.length ≤ maxLen) :
    Calls Try.prog 13 #[.slice a l.length c, .string ⟨x.toArray⟩] w (Ret w fun v w' => IsB (∃ y ∈ G l x, Rch (G l) y x) v w') := by
  have hmade := made_any a c l false w hn hl
  have HL := Lib.hid hl
  clear hn hl
  go_enter Try.func13, Try.ntmps13
  go_wp2_with fail
  refine hmade.mono ?_
  clear hmade
  rintro e w1 ⟨_, rfl, hb1, gb, ks, E, sl, rfl, rfl, hG, hks, hkl, hP⟩
  have hE := hP.small HL.out
  have hol := outs_len E x
  have hreach := reach_any w.heap.size (sl x).1 (sl x).2 (outs E x) w1 _ ks E sl hG (hG.own x).row (by omega) hE (fun n hn => hG.map.klen n (hG.keys (x, n) (mem_outs.1 hn)).2) hG.map.klen
  have Hks := Lib.hid hks
  have HP := Lib.hid hP
  have Hb1 := Lib.hid hb1
  have HG := Lib.hid hG
  clear hks hP hb1 hG hol
  have tok1 : True := trivial
  go_wp2_with (at_lookup; have _t := tok1; refine wpList_look rfl _ _ _ _ rfl undG (zeroStrs _) (by exact HG.out.map) hx rfl rfl ?_; clear tok1)
  refine hreach.mono ?_
  clear hreach
  rintro e w2 ⟨_, rfl, hb2, ob, ko, rfl, hob, hI, hkol, hko⟩
  have HI := Lib.hid hI
  have Hbw := Lib.hid (Hb1.out.trans (hb2.mono Hb1.out.size))
  have hiff : x ∈ ko ↔ ∃ y ∈ G l x, Rch (G l) y x := by
    rw [hko x]
    constructor
    · rintro ⟨_, n, h2, h3⟩; exact ⟨n, (HP.out.mem x n).1 (mem_outs.1 h2), HP.out.plain.1 h3⟩
    · rintro ⟨n, h2, h3⟩; exact ⟨(HG.out.keys (x, n) ((HP.out.mem x n).2 h2)).1, n, mem_outs.2 ((HP.out.mem x n).2 h2), HP.out.plain.2 h3⟩
  have Hiff := Lib.hid hiff
  clear hiff hko hI hb2
  by_cases hin : x ∈ ko
  · have Hin := Lib.hid hin
    clear hin
    go_wp2_with (at_lookup; refine wpList_lookI rfl _ _ rfl (by exact HI.out) hx rfl rfl 1 (by have := Hin.out; simp [this]) ?_)
    go_ret
    exact ⟨_, rfl, Hbw.out, isB_true (Hiff.out.1 Hin.out)⟩
  · have Hin := Lib.hid hin
    clear hin
    go_wp2_with (at_lookup; refine wpList_lookI rfl _ _ rfl (by exact HI.out) hx rfl rfl 0 (by have := Hin.out; simp [this]) ?_)
    go_ret
    exact ⟨_, rfl, Hbw.out, isB_false fun h => Hin.out (Hiff.out.2 h)⟩
end Go.Proofs.Ytnepamdmjppglaa
