/- The live question's Text, walked. -/
import Derived.Test.YtadekfjgdbngdaaOfW
namespace Go.Proofs.Ytadekfjgdbngdaa
open Go Go.RowKit

theorem Try.infoString : (Try.prog.info? 9).map (fun i => (i.zero, i.size, i.bytes)) = some (some (.string { data := #[] }), 1, 16) := by kernel_rfl

def tX : ByteArray := { data := #[120] }
def tA : ByteArray := { data := #[97, 114, 103, 117, 109, 101, 110, 116, 32, 111, 102, 32, 102] }
def tH : ByteArray := { data := #[104, 101, 97, 112] }
def tQ : ByteArray := { data := #[63] }
def texts : List ByteArray := [tX, tA, tH, tQ]
def tAll : ByteArray := ⟨(Lib.join (texts.map (·.data.toList)) [32, 45, 62, 32]).toArray⟩

set_option maxRecDepth 20000 in
set_option maxHeartbeats 4000000 in
theorem text1_any (aL aE : Option Addr) (cL cE bW cW : Nat) (w : World) (hL : Row w 5 aL 5 (bLocs.flatMap LocD.cells)) (hW : Row w 1 (some ⟨bW, 0, none⟩) 4 [.int .i64 2, .int .i64 4, .int .i64 0, .int .i64 9]) :
    Calls Try.prog 15 #[.agg #[.slice aL 5 cL, .slice aE 4 cE, .int .i64 0], .slice (some ⟨bW, 0, none⟩) 4 cW] w (Ret w (fun v _ => v = .string tAll)) := by
  have HL := Lib.hid hL
  have HW := Lib.hid hW
  clear hL hW
  go_enter Try.func15, Try.ntmps15
  go_wp2_with fail
  have hb0 := below_a1 w (.cells #[.slice aL 5 cL, .slice aE 4 cE, .int .i64 0] 35)
  have k0 : Blk (w.alloc (.cells #[.slice aL 5 cL, .slice aE 4 cE, .int .i64 0] 35)) w.heap.size #[.slice aL 5 cL, .slice aE 4 cE, .int .i64 0] 35 := Blk.new rfl
  generalize hW0 : (w.alloc (.cells #[.slice aL 5 cL, .slice aE 4 cE, .int .i64 0] 35)) = W0 at *
  have hsz : W0.heap.size = w.heap.size + 1 := by subst hW0; simp
  have Hb0 := Lib.hid hb0
  have K0 := Lib.hid k0
  clear hW0 hb0 k0
  go_loopw [5, 12] (fun out i wr => ∃ (k : Nat) (a : Option Addr) (c : Nat), k ≤ 4 ∧ i = .int .i64 k ∧ out = .slice a k c ∧ Hid (Below W0.heap.size W0 wr) ∧ Hid (Own wr W0.heap.size 9 1 a k c ((texts.take k).map Value.string))) (fun _ i _ => 4 - (intOf i).toNat)
  case atStart => exact ⟨0, none, 0, by omega, rfl, rfl, Below.refl _ _, Own.nil _ _ _ _⟩
  case round =>
    obtain ⟨k, a, c, hk, rfl, rfl, hb, hown⟩ := hrel
    have hszr : W0.heap.size ≤ wr.heap.size := hb.out.size
    by_cases hlt : k < 4
    · have hHL := HL.out.ext (Hb0.out.trans (hb.out.mono (by omega)))
      obtain ⟨b', o', he, hcW⟩ := (HW.out.ext (Hb0.out.trans (hb.out.mono (by omega)))).2 (by omega)
      cases he
      have c0 := (K0.out.ext hb.out).cell 0
      simp only [List.getElem?_toArray, List.getElem?_cons_zero] at c0
      have way := hcW k (by omega)
      rw [Nat.zero_add] at way
      clear hcW
      have hwlt : w.heap.size < wr.heap.size := by omega
      have Hb1 := Lib.hid (fun (o : Obj) => hb.out.alloc hb.out.size o)
      have Ho1 := Lib.hid (fun (o : Obj) => hown.out.alloc o)
      have Ho2 := Lib.hid (fun (o o2 : Obj) => (hown.out.alloc o).alloc o2)
      have Hb2 := Lib.hid (fun (o o2 : Obj) => (hb.out.alloc hb.out.size o).alloc (by simp; omega) o2)
      have Hown := Lib.hid hown.out.le
      have Hg := Lib.hid (fun q hq => hown.out.rowBase (Nat.le_refl _) q hq)
      clear hb hown
      have hcase : k = 0 ∨ k = 1 ∨ k = 2 ∨ k = 3 := by omega
      rcases hcase with rfl | rfl | rfl | rfl
      · obtain ⟨b, o, rfl, l0, l1, l2, l3, l4, -⟩ := loc_at (l := bLocs) hHL (i := 2) rfl
        simp only [bL2] at l0 l1 l2 l3 l4
        simp only [List.getElem?_cons_zero] at way
        clear hHL
        go_wp2_with (at_builtin; refine wpList_append_Own rfl _ _ 72 rfl W0.heap.size 9 _ 1 16 Try.underlying72 Try.infoString rfl (by decide) a 0 c _ rfl (by exact Ho2.out _ _) _ 1 1 [.string tX] rfl (Row.new1 (by simp) rfl rfl) (by simp [Value.oneCell']) (by decide) (by decide) (by simp; omega) ?_; intro a' c' w6 hown6 hg6 hbk6; have Hown6 := Lib.hid hown6; have Hb6 := Lib.hid ((Hb2.out _ _).grown hg6 (by simp; omega) Hg.out); clear hown6 hg6 hbk6)
        go_roundw
        case rel => exact ⟨1, a', c', by omega, by go_num, rfl, Hb6, Hown6⟩
        case measure => simp [intOf]
      · obtain ⟨b, o, rfl, l0, l1, l2, l3, l4, -⟩ := loc_at (l := bLocs) hHL (i := 4) rfl
        simp only [bL4] at l0 l1 l2 l3 l4
        simp only [List.getElem?_cons_zero, List.getElem?_cons_succ] at way
        clear hHL
        go_wp2_with (at_builtin; refine wpList_append_Own rfl _ _ 72 rfl W0.heap.size 9 _ 1 16 Try.underlying72 Try.infoString rfl (by decide) a 1 c _ rfl (by exact Ho2.out _ _) _ 1 1 [.string tA] rfl (Row.new1 (by simp) rfl rfl) (by simp [Value.oneCell']) (by decide) (by decide) (by simp; omega) ?_; intro a' c' w6 hown6 hg6 hbk6; have Hown6 := Lib.hid hown6; have Hb6 := Lib.hid ((Hb2.out _ _).grown hg6 (by simp; omega) Hg.out); clear hown6 hg6 hbk6)
        go_roundw
        case rel => exact ⟨2, a', c', by omega, by go_num, rfl, Hb6, Hown6⟩
        case measure => simp [intOf]
      · obtain ⟨b, o, rfl, l0, l1, l2, l3, l4, -⟩ := loc_at (l := bLocs) hHL (i := 0) rfl
        simp only [bL0, Nat.zero_mul, Nat.add_zero] at l0 l1 l2 l3 l4
        simp only [List.getElem?_cons_zero, List.getElem?_cons_succ] at way
        clear hHL
        go_wp2_with (at_builtin; refine wpList_append_Own rfl _ _ 72 rfl W0.heap.size 9 _ 1 16 Try.underlying72 Try.infoString rfl (by decide) a 2 c _ rfl (by exact Ho2.out _ _) _ 1 1 [.string tH] rfl (Row.new1 (by simp) rfl rfl) (by simp [Value.oneCell']) (by decide) (by decide) (by simp; omega) ?_; intro a' c' w6 hown6 hg6 hbk6; have Hown6 := Lib.hid hown6; have Hb6 := Lib.hid ((Hb2.out _ _).grown hg6 (by simp; omega) Hg.out); clear hown6 hg6 hbk6)
        go_roundw
        case rel => exact ⟨3, a', c', by omega, by go_num, rfl, Hb6, Hown6⟩
        case measure => simp [intOf]
      · obtain ⟨b, o, rfl, -⟩ := hHL.2 (by omega)
        simp only [List.getElem?_cons_zero, List.getElem?_cons_succ] at way
        clear hHL
        go_wp2_with (at_builtin; refine wpList_append_Own rfl _ _ 72 rfl W0.heap.size 9 _ 1 16 Try.underlying72 Try.infoString rfl (by decide) a 3 c _ rfl (by exact Ho1.out _) _ 1 1 [.string tQ] rfl (Row.new1 (by simp) rfl rfl) (by simp [Value.oneCell']) (by decide) (by decide) (by simp; omega) ?_; intro a' c' w6 hown6 hg6 hbk6; have Hown6 := Lib.hid hown6; have Hb6 := Lib.hid ((Hb1.out _).grown hg6 (by simp; omega) Hg.out); clear hown6 hg6 hbk6)
        go_roundw
        case rel => exact ⟨4, a', c', by omega, by go_num, rfl, Hb6, Hown6⟩
        case measure => simp [intOf]
    · obtain rfl : k = 4 := by omega
      obtain ⟨b, o, rfl, hc⟩ := hown.out.row.2 (by omega)
      go_wp2_with fail
      refine (Try.strings_Join b o c texts { data := #[32, 45, 62, 32] } _ (fun j x hx => ?_) ?_ (by decide) hown.out.le (by decide)).mono ?_
      · have hj := get_lt hx
        rw [hc j (by simpa [texts] using hj)]
        simp only [texts, List.take_succ_cons, List.take_zero] at hx ⊢
        rw [List.getElem?_map]
        exact congrArg (Option.map Value.string) hx
      · exact (hown.out.size (g := b) (by have := hown.out.le; omega) rfl).2
      rintro e w' ⟨rfl, hb'⟩
      go_wp2
      go_ret
      have h1 := Hb0.out.trans (hb.out.mono (by omega))
      exact ⟨_, rfl, h1.trans (hb'.mono h1.size), rfl⟩
end Go.Proofs.Ytadekfjgdbngdaa
