/- WalkEscapes, for every graph: the law answers true, and its argument reads as it did. Conditions: none. -/
import Derived.Test.YtlpmpgocecmfbaaOpen
namespace Go.Proofs.Ytlpmpgocecmfbaa
open Go Go.RowKit Go.ChangeAt Go.ChangeShapes Go.WideShapes

theorem Try.ownE : ownKnob Try.prog.godebug = none := by kernel_rfl
theorem Try.laidOutE : laidOutB Try.prog = true := by kernel_rfl

set_option maxRecDepth 100000 in
theorem escapes_lifted (os : Os) (started : os.Started) (H : Type) (enc : TypeId × Value → H) :
    ReturnsInHanded {} Try.checked os 4 .any (Rows.walkEscapesSpec.pre6 enc Try.prog Try.f4 Rows.walkEscapesRow.domain false) (Rows.walkEscapesSpec.post enc Try.prog Try.f4 false true false false) := by
  refine returnsInHanded_of_change (C := Try.checked) Try.ownE started (by kernel_rfl) Try.func4
    (ChangeSpec.witness6 (enc := enc) (C := Try.checked) false ⟨#[], #[.agg #[.slice none 0 0, .slice none 0 0, .int .i64 0]], []⟩ 8 (by kernel_rfl) (by kernel_rfl) (by kernel_rfl) (by kernel_rfl)) ?_
  intro W base args ds gs before hval0 hW hcnd _
  have hval : ∀ (j : Nat) t v, Try.f4.params[j]? = some t → args[j]? = some v → Value.okWide Try.prog W .any base t v := hval0
  have hW' := hW
  obtain ⟨p, q, hA0, hV, rfl, hfz, hnd⟩ := hW
  have hA : DataW.TrodAll enc Try.prog W 0 (fun _ => true) true Try.f4.params.toList args.toList ds p := hA0
  rw [Try.params4] at hA hval
  obtain ⟨v0, d0, rfl, rfl, h0⟩ := trodAll_one hA
  obtain ⟨rfl, rfl⟩ := trodVars_none hV
  have hlt : ∀ x ∈ p, x.block < W.heap.size := fun x hx => hW'.lt x (by simp [hx])
  obtain ⟨aL, cL, aE, cE, k, locs, edges, rfl, hL, hE, hl, he⟩ := open_graph (hval 0 25 v0 rfl rfl) h0
  clear hA0 hval0
  refine (escapesLaw_any aL aE cL cE k locs edges W hL hE hl he).mono fun e W' hres => ?_
  obtain ⟨v, rfl, hb, bb, rfl, hbt⟩ := hres
  obtain rfl : bb = true := hbt.2 trivial
  have t0 := Below.trod Try.laidOutE (by kernel_rfl) (of_decide_eq_true (by kernel_rfl)) h0 hb hlt
  refine ⟨_, rfl, _, _, _, [], p, [], hW', ?_, ?_, ?_, hb.frame _, fun h => by cases h⟩
  · exact trodAll_mk1 (shut_bool Try.underlying4 true)
  · exact trodAll_mk1 t0
  · rfl

theorem escapes_holds : Rows.WalkEscapesSaid :=
  OpenClaim.holds_of_wide 4 Try.f4 rfl rfl rfl rfl rfl rfl rfl ⟨rfl, rfl, rfl, rfl, rfl⟩ rfl rfl rfl rfl rfl (by kernel_rfl) Try.func4 (by kernel_rfl)
    (of_decide_eq_true (by kernel_rfl)) (by unfold Func.isWrapper; first | (rw [if_pos (by decide +kernel)]; kernel_rfl) | (rw [if_neg (by decide +kernel)]; exact ⟨rfl, rfl⟩))
    (fun os started H enc _ => escapes_lifted os started H enc)

end Go.Proofs.Ytlpmpgocecmfbaa
