/- Graphs as values: locations, edges; what Small, Ints and the two Rights answer. -/
import Derived.Test.YtadekfjgdbngdaaRows
import Derived.Test.YtadekfjgdbngdaaBase
namespace Go.Proofs.Ytadekfjgdbngdaa
open Go Go.RowKit

/-- what a call comes to: a value, in a world that extends the one it began in -/
def Ret (w : World) (R : Value → World → Prop) (e : Ending) (w' : World) : Prop := ∃ v, e = .returned v ∧ Below w.heap.size w w' ∧ R v w'

structure LocD where
  kind : ByteArray
  name : ByteArray
  fr : Int
  to : Int
  loop : Int
structure EdgeD where
  src : Int
  dst : Int
  deref : Int
def LocD.cells (l : LocD) : List Value := [.string l.kind, .string l.name, .int .i64 l.fr, .int .i64 l.to, .int .i64 l.loop]
def EdgeD.cells (l : EdgeD) : List Value := [.int .i64 l.src, .int .i64 l.dst, .int .i64 l.deref]
theorem LocD.len (l : LocD) : l.cells.length = 5 := rfl
theorem EdgeD.len (l : EdgeD) : l.cells.length = 3 := rfl

theorem edge_at {w : World} {a : Option Addr} {l : List EdgeD} (h : Row w 3 a l.length (l.flatMap EdgeD.cells)) {i : Nat} {x : EdgeD} (hx : l[i]? = some x) :
    ∃ b off, a = some ⟨b, off, none⟩ ∧ w.cell? ⟨b, off + i * 3, none⟩ = some (.int .i64 x.src) ∧ w.cell? ⟨b, off + i * 3 + 1, none⟩ = some (.int .i64 x.dst) ∧ w.cell? ⟨b, off + i * 3 + 2, none⟩ = some (.int .i64 x.deref) ∧ b < w.heap.size := by
  obtain ⟨b, off, ha, hc⟩ := Row.elem EdgeD.len (by decide) h hx
  exact ⟨b, off, ha, hc 0 (by decide), hc 1 (by decide), hc 2 (by decide), cell_lt (hc 0 (by decide))⟩

theorem loc_at {w : World} {a : Option Addr} {l : List LocD} (h : Row w 5 a l.length (l.flatMap LocD.cells)) {i : Nat} {x : LocD} (hx : l[i]? = some x) :
    ∃ b off, a = some ⟨b, off, none⟩ ∧ w.cell? ⟨b, off + i * 5, none⟩ = some (.string x.kind) ∧ w.cell? ⟨b, off + i * 5 + 1, none⟩ = some (.string x.name) ∧ w.cell? ⟨b, off + i * 5 + 2, none⟩ = some (.int .i64 x.fr) ∧
      w.cell? ⟨b, off + i * 5 + 3, none⟩ = some (.int .i64 x.to) ∧ w.cell? ⟨b, off + i * 5 + 4, none⟩ = some (.int .i64 x.loop) ∧ b < w.heap.size := by
  obtain ⟨b, off, ha, hc⟩ := Row.elem LocD.len (by decide) h hx
  exact ⟨b, off, ha, hc 0 (by decide), hc 1 (by decide), hc 2 (by decide), hc 3 (by decide), hc 4 (by decide), cell_lt (hc 0 (by decide))⟩

def Small (locs : List LocD) (edges : List EdgeD) : Prop := locs.length ≤ 40 ∧ edges.length ≤ 120 ∧ ∀ x ∈ edges, x.deref ≤ 20

/-- a bool that says whether p -/
def IsB (p : Prop) (v : Value) (_ : World) : Prop := ∃ b, v = .bool b ∧ (b = true ↔ p)

theorem isB_true {p : Prop} {w : World} (h : p) : IsB p (.bool true) w := ⟨true, rfl, by simp [h]⟩
theorem isB_false {p : Prop} {w : World} (h : ¬ p) : IsB p (.bool false) w := ⟨false, rfl, by simp [h]⟩
theorem isB_of {p : Prop} {w : World} {b : Bool} (h : b = true ↔ p) : IsB p (.bool b) w := ⟨b, rfl, h⟩

theorem below_a1 (w : World) (o : Obj) : Below w.heap.size w (w.alloc o) := (Below.refl _ _).alloc (Nat.le_refl _) _

set_option maxHeartbeats 400000 in
theorem small_any (aL aE : Option Addr) (cL cE : Nat) (p : Int) (locs : List LocD) (edges : List EdgeD) (w : World) (hE : Row w 3 aE edges.length (edges.flatMap EdgeD.cells))
    (hl : locs.length ≤ maxLen) (hl' : edges.length ≤ maxLen) :
    Calls Try.prog 5 #[.agg #[.slice aL locs.length cL, .slice aE edges.length cE, .int .i64 p]] w (Ret w (IsB (Small locs edges))) := by
  unfold maxLen at hl hl'
  go_enter Try.func5, Try.ntmps5
  go_wp2
  go_loop [3] (fun i => ∃ k : Nat, k ≤ edges.length ∧ k ≤ 121 ∧ i = .int .i64 k ∧ Hid (∀ j x, j < k → edges[j]? = some x → x.deref ≤ 20)) (fun i => 200 - (intOf i).toNat)
  case atStart => exact ⟨0, Nat.zero_le _, by omega, rfl, fun j x h => by omega⟩
  case round =>
    obtain ⟨k, hk, hk2, rfl, hall⟩ := hrel
    have fin : ¬ (k < edges.length ∧ k ≤ 120) → ((locs.length ≤ 40 ∧ edges.length ≤ 120) ↔ Small locs edges) := fun hn =>
      ⟨fun ⟨h1, h2⟩ => ⟨h1, h2, fun x hx => by obtain ⟨j, hj, rfl⟩ := List.getElem_of_mem hx; exact hall j _ (by omega) (List.getElem?_eq_getElem hj)⟩, fun h => ⟨h.1, h.2.1⟩⟩
    have Fin := Lib.hid fin
    clear fin
    by_cases hlt : k < edges.length
    · by_cases h120 : k ≤ 120
      · obtain ⟨x, hx⟩ := get_some hlt
        obtain ⟨b, off, rfl, h1, h2, h3, hb⟩ := edge_at hE hx
        have Hx := Lib.hid hx
        clear hx hE
        go_wp2
        · go_ret
          exact ⟨_, rfl, below_a1 _ _, isB_false fun h => by have := h.2.2 x (List.mem_of_getElem? Hx.out); omega⟩
        · go_round
          case rel =>
            refine ⟨k + 1, by omega, by omega, by go_num, fun j y hj hy => ?_⟩
            rcases Nat.lt_or_ge j k with h | h
            · exact hall j y h hy
            · obtain rfl : j = k := by omega
              have := Hx.out; rw [hy] at this; cases this; assumption
          case measure => simp [intOf]; omega
      · have h120' : decide ((k : Int) ≤ 120) = false := by simpa using (by omega : ¬ (k : Int) ≤ 120)
        go_wp2
        all_goals (go_ret; exact ⟨_, rfl, below_a1 _ _, isB_of (by rw [← Fin.out (by omega)]; simp <;> omega)⟩)
    · go_wp2
      all_goals (go_ret; exact ⟨_, rfl, below_a1 _ _, isB_of (by rw [← Fin.out (by omega)]; simp <;> omega)⟩)

end Go.Proofs.Ytadekfjgdbngdaa
