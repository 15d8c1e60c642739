/- The program's least looks by one edge more, walked. -/
import Derived.Test.YtadekfjgdbngdaaMadeY
import Derived.Test.YtadekfjgdbngdaaLook
namespace Go.Proofs.Ytadekfjgdbngdaa
open Go Go.RowKit

def upE (F : Nat → List EdgeD) (i : Nat) : List EdgeD := (List.range i).flatMap F
theorem upE_succ (F : Nat → List EdgeD) (i : Nat) : upE F (i + 1) = upE F i ++ F i := by simp [upE, List.range_succ, List.flatMap_append]
theorem upE_mem {w : World} {gx n : Nat} {edges : List EdgeD} {F : Nat → List EdgeD} (h : MadeY w gx n edges F) (hok : ∀ e ∈ edges, EdgeOk n e) (e : EdgeD) : e ∈ upE F n ↔ e ∈ edges := by
  unfold upE
  simp only [List.mem_flatMap, List.mem_range]
  constructor
  · rintro ⟨i, hi, he⟩; exact ((h.mem i hi e).1 he).1
  · intro he
    obtain ⟨h1, h2, _⟩ := hok e he
    exact ⟨e.src.toNat, by omega, (h.mem _ (by omega) e).2 ⟨he, by omega⟩⟩

set_option maxRecDepth 20000 in
set_option maxHeartbeats 2000000 in
theorem longer_any (gx n : Nat) (aR : Option Addr) (cR : Nat) (edges : List EdgeD) (F : Nat → List EdgeD) (rest : List Int) (w : World) (hG : MadeY w gx n edges F) (hr : Row w 1 aR rest.length (rest.map (Value.int .i64)))
    (hn : rest.length = n) (hok : ∀ e ∈ edges, EdgeOk n e) (hl : n ≤ 1048576) (hl0 : 0 < n) (hl' : edges.length ≤ 1048576) (hb : ∀ x ∈ rest, -2 ≤ x ∧ x ≤ 2305843009213693952) :
    Calls Try.prog 21 #[.pointer (some ⟨gx, 0, none⟩), .slice aR rest.length cR] w (Ret w (IntsOf w.heap.size (Longer edges rest))) := by
  have HG := Lib.hid hG
  have HR := Lib.hid hr
  have Hok := Lib.hid hok
  have Hbd := Lib.hid hb
  have hnr : rest.length ≤ 1048576 := by omega
  have hnr0 : 0 < rest.length := by omega
  have Hn := Lib.hid hn
  clear hG hr hok hb hn
  go_enter Try.func21, Try.ntmps21
  go_wp2_with fail
  refine (repeat_any (some ⟨w.heap.size, 0, none⟩) 1 (-2) rest.length _ (Row.new1 rfl rfl rfl) (by omega)).mono ?_
  rintro e w1 ⟨v, rfl, hb1, a1, c1, rfl, hown, hg⟩
  rw [List.length_replicate] at hown hg ⊢
  obtain ⟨g, rfl⟩ := hg (by omega)
  have hbw := (below_a1 w (.cells #[.int .i64 (-2)] 3)).trans (hb1.mono (by simp))
  have hsz := hown.size (by have := hown.le; omega) rfl
  simp at hsz
  have Hown := Lib.hid (hown.mono (base' := w.heap.size) (by simp))
  have Hb1 := Lib.hid hbw
  have Hsz : Hid (w.heap.size < g) := by show _ < _; omega
  obtain ⟨gb, cc, g3, hrows⟩ := HG.out.cells
  have Hrows := Lib.hid hrows
  have g3' := below_ext hbw g3
  clear hown hg hbw hb1 hsz g3 hrows
  go_wp2_with fail
  clear g3'
  go_loopw [21] (fun i wr => ∃ (k : Nat) (cur : List Int), k ≤ n ∧ i = .int .i64 k ∧ Hid (Longer (upE F k) rest cur) ∧ Hid (Own wr w.heap.size 3 1 (some ⟨g, 0, none⟩) rest.length c1 (cur.map (Value.int .i64))) ∧ Hid (Below w.heap.size w wr)) (fun i _ => n - (intOf i).toNat)
  case atStart => exact ⟨0, List.replicate rest.length (-2), Nat.zero_le _, rfl, Longer.none rest _ rfl, by rw [List.map_replicate]; rw [List.map_replicate] at Hown; exact Hown, Hb1⟩
  case round =>
    clear Hown Hb1
    obtain ⟨k, cur, hk, rfl, hcur, hown, hb⟩ := hrel
    by_cases hlt : k < n
    · obtain ⟨aF, cF, f1, f2⟩ := Hrows.out k hlt
      have f1' := below_ext hb.out f1
      have HF := Lib.hid f2
      have hlF := HG.out.len k hlt
      have Hmem := Lib.hid (HG.out.mem k hlt)
      clear f1 f2
      go_wp2_with fail
      clear f1'
      go_loopw [28] (fun i wr => ∃ (q : Nat) (cur : List Int), q ≤ (F k).length ∧ i = .int .i64 q ∧ Hid (Longer (upE F k ++ (F k).take q) rest cur) ∧ Hid (Own wr w.heap.size 3 1 (some ⟨g, 0, none⟩) rest.length c1 (cur.map (Value.int .i64))) ∧ Hid (Below w.heap.size w wr)) (fun i _ => (F k).length - (intOf i).toNat)
      case atStart => exact ⟨0, cur, Nat.zero_le _, rfl, by rw [List.take_zero, List.append_nil]; exact hcur, hown, hb⟩
      case round =>
        clear hcur hown hb
        obtain ⟨q, cur, hq, rfl, hcur, hown, hb⟩ := hrel
        by_cases hlt2 : q < (F k).length
        · obtain ⟨x, hx⟩ := get_some hlt2
          have hm := (Hmem.out x).1 (List.mem_of_getElem? hx)
          have hok := Hok.out x hm.1
          obtain ⟨bE, oE, rfl, e1, e2, e3, hbE⟩ := edge_at (HF.out.ext hb.out) hx
          have Hsn := Lib.hid (take_snoc hx)
          obtain ⟨-, hsrc⟩ := hm
          clear hx
          obtain ⟨o1, o2, o3, o4, o5, o6⟩ := hok
          obtain ⟨xs, xd, xr⟩ := x
          simp only at e1 e2 e3 o1 o2 o3 o4 o5 o6 hsrc
          subst hsrc
          have hcl := hcur.out.len
          have hnl := Hn.out
          obtain ⟨d, hd⟩ := get_some (l := rest) (i := xd.toNat) (by omega)
          obtain ⟨s, hs⟩ := get_some (l := cur) (i := k) (by omega)
          obtain ⟨n1, n2, n3, n4⟩ := hown.out.at0 (j := k) (by omega)
          rw [List.getElem?_map, hs] at n2
          simp only [Option.map_some] at n2
          obtain ⟨hd1, hd2⟩ := Hbd.out d (List.mem_of_getElem? hd)
          have hkr : k < rest.length := by omega
          have Hd := Lib.hid hd
          have Hs := Lib.hid hs
          clear hd hs hcl hnl
          have hba := (Below.refl wr.heap.size wr).alloc (Nat.le_refl _) (.cells #[.int .i64 k, .int .i64 xd, .int .i64 xr] 48)
          have Hba := Lib.hid hba
          clear hba
          go_wp2_with fail
          refine (look_any k xd xr d aR cR rest _ (HR.out.ext (hb.out.trans (Hba.out.mono hb.out.size))) hnr o3 Hd.out hd1 hd2 o5 o6).mono ?_
          rintro e w2 ⟨v, rfl, hb2, rfl⟩
          have hb3 := Hba.out.trans (hb2.mono Hba.out.size)
          have Hb3 := Lib.hid (hb.out.trans (hb3.mono hb.out.size))
          have n2' := below_ext hb3 n2
          have Hown3 := Lib.hid (hown.out.ext hb3)
          have n1' := (Hown3.out.at0 (j := k) hkr).1
          have hg2 : g < w2.heap.size := by have := hb3.size; omega
          have hput : (s = -2 ∨ max d 0 + xr < s) → d ≠ -2 → Longer (upE F k ++ (F k).take (q + 1)) rest (cur.set k (max d 0 + xr)) := fun h1 h2 => by
            rw [Hsn.out, ← List.append_assoc]
            have := hcur.out.put (e := ⟨k, xd, xr⟩) (d := d) (s := s) Hd.out h2 (by show cur[(k : Int).toNat]? = _; rw [Int.toNat_natCast]; exact Hs.out) h1 o5 o1
            simpa using this
          have hkeep : d ≠ -2 → s ≠ -2 → ¬ max d 0 + xr < s → Longer (upE F k ++ (F k).take (q + 1)) rest cur := fun h1 h2 h3 => by
            rw [Hsn.out, ← List.append_assoc]
            exact hcur.out.keep (e := ⟨k, xd, xr⟩) (d := d) (s := s) Hd.out (by show cur[(k : Int).toNat]? = _; rw [Int.toNat_natCast]; exact Hs.out) h2 (by show s ≤ max d 0 + xr; omega)
          have hskip : d = -2 → Longer (upE F k ++ (F k).take (q + 1)) rest cur := fun h1 => by
            rw [Hsn.out, ← List.append_assoc]
            exact hcur.out.skip (by rw [Hd.out, h1])
          have Hput := Lib.hid hput
          have Hkeep := Lib.hid hkeep
          have Hskip := Lib.hid hskip
          have hset := Hown3.out.set0 (j := k) hkr (.int .i64 (max d 0 + xr))
          rw [← List.map_set] at hset
          have Hset := Lib.hid hset
          have Hbs := Lib.hid (Hb3.out.setCell (p := ⟨g, k, none⟩) (by have := Hsz.out; show w.heap.size ≤ g; omega) (.int .i64 (max d 0 + xr)))
          clear hput hkeep hskip hset hb2 hb3 n1 n2 n3 n4 hbE
          generalize hm : max d 0 + xr = m at *
          by_cases hd3 : d = -2
          · have fd : (d != -2) = false := by simpa using hd3
            have Hd3 := Lib.hid hd3
            clear hd3
            go_wp2
            go_roundw
            case rel => exact ⟨q + 1, cur, by omega, by go_num, Hskip.out Hd3.out, Hown3, Hb3⟩
            case measure => simp [intOf]; omega
          · have fd : (d != -2) = true := by simpa using hd3
            have Hd3 := Lib.hid hd3
            clear hd3
            by_cases hs3 : s = -2
            · have fs : (s == -2) = true := by simpa using hs3
              have Hs3 := Lib.hid hs3
              clear hs3
              go_wp2
              go_roundw
              case rel => exact ⟨q + 1, cur.set k m, by omega, by go_num, Hput.out (.inl Hs3.out) Hd3.out, Hset, Hbs⟩
              case measure => simp [intOf]; omega
            · have fs : (s == -2) = false := by simpa using hs3
              have Hs3 := Lib.hid hs3
              clear hs3
              by_cases hlt3 : m < s
              · have Hlt3 := Lib.hid hlt3
                go_wp2
                go_roundw
                case rel => exact ⟨q + 1, cur.set k m, by omega, by go_num, Hput.out (.inr Hlt3.out) Hd3.out, Hset, Hbs⟩
                case measure => simp [intOf]; omega
              · have Hlt3 := Lib.hid hlt3
                go_wp2
                go_roundw
                case rel => exact ⟨q + 1, cur, by omega, by go_num, Hkeep.out Hd3.out Hs3.out Hlt3.out, Hown3, Hb3⟩
                case measure => simp [intOf]; omega
        · obtain rfl : q = (F k).length := by omega
          have h1 := hcur.out
          rw [List.take_length, ← upE_succ] at h1
          have H1 := Lib.hid h1
          clear h1 hcur
          go_wp2
          go_roundw
          case rel => exact ⟨k + 1, cur, by omega, by go_num, H1, hown, hb⟩
          case measure => simp [intOf]; omega
    · obtain rfl : k = n := by omega
      go_wp2
      go_ret
      have h1 := hcur.out.congr (upE_mem HG.out Hok.out)
      have h2 := h1.len
      refine ⟨_, rfl, hb.out, cur, h1, some ⟨g, 0, none⟩, c1, ?_, ?_, fun _ => ⟨_, rfl⟩⟩
      · show Value.slice (some ⟨g, 0, none⟩) rest.length c1 = Value.slice (some ⟨g, 0, none⟩) cur.length c1
        rw [h2]
      · rw [h2]; exact hown.out
end Go.Proofs.Ytadekfjgdbngdaa
