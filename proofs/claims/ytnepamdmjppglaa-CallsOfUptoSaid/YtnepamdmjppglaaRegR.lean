/- A region that draws its order, within a round of a range over a function: the walk of it outside of any round serves, where no operation of it enters a function. -/
import Derived.WalkKit
import Derived.OrdersHeld
import Derived.OrdersIn
import Derived.Deep.RegionHeld
namespace Go.Proofs.Ytnepamdmjppglaa
open Go Go.RowKit

/-- what enters no function -/
def calmB : Builtin → Bool
  | .append | .cap | .copy | .delete | .len | .max | .min => true
  | _ => false
def calmOp : Op → Bool
  | .move _ | .assign _ | .load _ _ | .store _ _ _ | .alloc _ | .box _ _ | .build _ _ | .buildSlice _ _ _ | .slice _ _ _ _ _ | .indexAddr _ _ _ | .fieldAddr _ _ _ | .field _ _ _ | .index _ _ _ | .binOp _ _ _ _ _ | .unOp _ _ _ | .convert _ _ _ | .lookup _ _ _ _ | .mapUpdate _ _ _ _ | .insert _ _ _ _ => true
  | .call c => match c.callee with
    | .builtin b => calmB b
    | _ => false
  | _ => false
def calmR : Result Next → Prop
  | .ok (.value _) _ => True
  | .ok .skip _ => True
  | .halt _ _ => True
  | _ => False
section
variable {F : Fence} {n : Nat} {P : Program} {ops : Array Oper} {Q : Exit → Act → World → Prop}
theorem calm_v (s : Sem Value) (w : World) : calmR ((do pure (Next.value (← s)) : Sem Next).run P w) := by
  rw [Sem.run_bind]
  cases s.run P w <;> simp [Result.andThen, calmR]
theorem calm_u (s : Sem Unit) (w : World) : calmR ((do s; pure Next.skip : Sem Next).run P w) := by
  rw [Sem.run_bind]
  cases s.run P w <;> simp [Result.andThen, calmR]
theorem calm_builtin (b : Builtin) (h : calmB b = true) (t1 : Array TypeId) (t : TypeId) (cs : Array Bool) (args : Array Value) (w : World) : calmR ((builtin b t1 t cs args).run P w) := by
  cases b <;> first | (simp [calmB] at h; done) | exact calm_v _ w
theorem calm_op {o : Oper} (h : calmOp o.op = true) (ρ : Operand → Value) (w : World) : calmR ((execOp ρ o).run P w) ∧ o.about P w ρ = none ∧ ∀ c, o.op ≠ .defer c := by
  obtain ⟨dst, op, ty, pos, q1, q2⟩ := o
  cases op <;> first
    | (simp [calmOp] at h; done)
    | exact ⟨calm_v _ w, rfl, by intro c h; cases h⟩
    | exact ⟨calm_u _ w, rfl, by intro c h; cases h⟩
    | exact ⟨by simp [execOp, calmR], rfl, by intro c h; cases h⟩
    | skip
  rename_i c
  obtain ⟨ce, args, tys⟩ := c
  cases ce <;> first
    | (simp [calmOp] at h; done)
    | exact ⟨by simp only [execOp, resolve, Sem.run_bind, Sem.run_pure, Result.andThen_ok]; exact calm_builtin _ h _ _ _ _ w, by simp only [Oper.about, resolve, Sem.run_pure]; rfl, by intro c h; cases h⟩

theorem oper_calm {o : Oper} {a : Act} {K : Act → World → Prop} {w : World} (hc : calmOp o.op = true) (h : o.wp P a w K Q) : o.wpIn F n P a w K Q := by
  obtain ⟨h1, h2, h3⟩ := calm_op (P := P) hc a.eval w
  unfold Oper.wp at h
  unfold Oper.wpIn
  rw [Oper.semAt_eq F.round _ _ h3]
  refine ⟨fun f hf => (by rw [h2] at hf; cases hf), ?_⟩
  generalize (execOp a.eval o).run P w = r at *
  cases r with
  | halt x w' => cases x <;> simp only [Oper.upon] at h <;> simp only [Oper.uponIn] <;> exact h
  | ok x w' => cases x <;> simp only [calmR] at h1 <;> exact h
theorem op_calm (hcs : ∀ (i : Nat) o, ops[i]? = some o → calmOp o.op = true) (hL : ¬ LetsOut Q) {i : Nat} {K : Act → World → Prop} {a : Act} {w : World} (h : wpOp P ops Q i K a w) : wpOpIn F n P ops Q i K a w := by
  unfold wpOp at h
  unfold wpOpIn
  split
  · rename_i ho; simp only [ho] at h; exact h
  · rename_i o ho
    simp only [ho] at h
    split
    · rename_i hw
      simp only [hw, if_true] at h
      rcases h with h | h
      · exact oper_calm (hcs i o ho) h
      · exact absurd h.2 hL
    · rename_i hw
      simp only [hw] at h
      exact ⟨fun f hf => (by rw [(calm_op (P := P) (hcs i o ho) a.eval w).2.1] at hf; cases hf), h⟩
theorem any_calm {md : Region.Mode} (hcs : ∀ (i : Nat) o, ops[i]? = some o → calmOp o.op = true) (hL : ¬ LetsOut Q) : ∀ (fuel : Nat) (listed : Array Bool) (a : Act) (w : World), wpAny P md ops Q fuel listed a w → wpAnyIn F n P md ops Q fuel listed a w
  | 0, _, _, _, h => h
  | fuel + 1, _, _, _, h => ⟨h.1, fun i hi => wpOpIn_mono (fun a w => any_calm hcs hL fuel _ a w) (op_calm hcs hL (h.2 i hi))⟩
end
/-- the law: a region of a round, by the walk outside -/
theorem round_region_held {F : Fence} {n : Nat} {P : Program} {l : List Oper} {Q : Exit → Act → World → Prop} {S : World → Prop} {id : Nat} {a : Act} {w : World} (hcs : l.all (fun o => calmOp o.op) = true) (hL : ¬ LetsOut Q) (hm : P.follows .mixedOrders = true) (hS : S w.drew)
    (h : S w.drew → wpAnyH P .any l.toArray Q S l.toArray.size (Array.replicate l.toArray.size false) a w.drew) : (Code.region id l.toArray true).wpIn F n P Q a w :=
  wpIn_region_any hm (any_calm (fun i o ho => List.all_eq_true.1 hcs o (by rw [List.getElem?_toArray] at ho; exact List.mem_of_getElem? ho)) hL _ _ _ _ (wpAny_of_held _ _ _ _ (h hS)))
end Go.Proofs.Ytnepamdmjppglaa
