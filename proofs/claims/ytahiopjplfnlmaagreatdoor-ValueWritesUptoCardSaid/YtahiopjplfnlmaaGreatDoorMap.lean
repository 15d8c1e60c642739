/- Maps keyed by texts, whatever they hold: what they read as by their keys; looked up, stored into, counted. -/
import Derived.Maps.OwnSet
import Derived.Sort.KeysCollected
import Derived.Test.YtahiopjplfnlmaaGreatDoorSm
namespace Go.Proofs.YtahiopjplfnlmaaGreatDoor
open Go Go.RowKit Go.Sort Go.MapKept Go.ChangeMaps Go.WideShapes
open Go.WideElems (Fit rd rg pl rd_val rd_mk rg_of)
open Go.Maps (Keyed)

section
variable {α : Type} [DecidableEq α]
/-- f, but v at a -/
def upd {β : Type} (f : α → β) (a : α) (v : β) : α → β := fun x => if x = a then v else f x
theorem upd_same {β : Type} (f : α → β) (a : α) (v : β) : upd f a v a = v := by simp [upd]
theorem upd_other {β : Type} (f : α → β) {a x : α} (v : β) (h : x ≠ a) : upd f a v x = f x := by simp [upd, h]
end
noncomputable def R0 : Value → Option (DataW Unit × List MemPlace) := fun _ => some (.nil, [])
noncomputable def kOf (P : Program) (k : TypeId) (e : MapEntry) : Nm := strOf (rg P k R0 e).1

section
variable {P : Program} {k : TypeId}
theorem strK (hk : P.underlying k = some .string) : Keyed P k := Maps.string_keyed hk
theorem key_str (hk : P.underlying k = some .string) {x : Nm} (hx : x.length ≤ maxLen) : keyOf P k (strV x) = some (.string x) := by
  have h := Go.WideMaps.keyOf_string_mk hk (s := ⟨x.toArray⟩) (by simpa [ByteArray.size] using hx)
  simpa [strV] using h
theorem key_inv (hk : P.underlying k = some .string) {v : Value} {l : Lit} (h : keyOf P k v = some l) : ∃ x : Nm, v = strV x ∧ l = .string x ∧ x.length ≤ maxLen := by
  obtain ⟨x, h1, h2, h3⟩ := Maps.keyOf_str hk h
  exact ⟨x, by simpa [strV] using h1, h2, h3⟩

/-- block b is a map whose keys are ks, and that holds f x at x; z where there is no key -/
def SMap (P : Program) (k : TypeId) (w : World) (b : Nat) (ks : List Nm) (f : Nm → Value) (z : Value) : Prop :=
  ∃ es clock, w.heap[b]? = some (.map es clock) ∧ Fit P k R0 es clock ∧ (es.toList.map (kOf P k)).Perm ks ∧ (∀ e ∈ es.toList, e.key = strV ((kOf P k) e) ∧ e.val = f ((kOf P k) e)) ∧ ks.Nodup ∧ (∀ x ∈ ks, x.length ≤ maxLen) ∧ ∀ x, x ∉ ks → f x = z

theorem SMap.made (w : World) (z : Value) : SMap P k (w.alloc (.map #[] 0)) w.heap.size [] (fun _ => z) z :=
  ⟨#[], 0, (MapKept.heap_alloc w _).1, ⟨by simp, stamped_empty 0, by simp⟩, by simp, by simp, by simp, by simp, fun _ _ => rfl⟩
theorem SMap.lt {w : World} {b : Nat} {ks : List Nm} {f : Nm → Value} {z : Value} (h : SMap P k w b ks f z) : b < w.heap.size := by
  obtain ⟨es, clock, hb, _⟩ := h
  exact (Array.getElem?_eq_some_iff.1 hb).1
theorem SMap.congr {w w' : World} {b : Nat} {ks : List Nm} {f : Nm → Value} {z : Value} (h : SMap P k w b ks f z) (hb : w'.heap[b]? = w.heap[b]?) : SMap P k w' b ks f z := by
  obtain ⟨es, clock, h1, h2⟩ := h
  exact ⟨es, clock, hb.trans h1, h2⟩
theorem SMap.below {w w' : World} {B b : Nat} {ks : List Nm} {f : Nm → Value} {z : Value} (h : SMap P k w b ks f z) (hb : Below B w w') (hB : b < B) : SMap P k w' b ks f z := h.congr (hb.block b hB)
theorem SMap.ext {w w' : World} {b : Nat} {ks : List Nm} {f : Nm → Value} {z : Value} (h : SMap P k w b ks f z) (hb : Below w.heap.size w w') : SMap P k w' b ks f z := h.below hb h.lt
theorem SMap.grown {w w' : World} {b : Nat} {ks : List Nm} {f : Nm → Value} {z : Value} {row : Option Nat} (h : SMap P k w b ks f z) (hg : w.grownBy w' row) (hne : some b ≠ row) : SMap P k w' b ks f z := h.congr (hg.block b h.lt hne)
theorem SMap.alloc {w : World} {b : Nat} {ks : List Nm} {f : Nm → Value} {z : Value} (h : SMap P k w b ks f z) (o : Obj) : SMap P k (w.alloc o) b ks f z := h.congr (Below.heap_alloc w o b h.lt)
theorem SMap.drewN {w : World} {b : Nat} {ks : List Nm} {f : Nm → Value} {z : Value} (h : SMap P k w b ks f z) (n : Nat) : SMap P k (w.drewN n) b ks f z := h
theorem SMap.set {w : World} {b : Nat} {ks : List Nm} {f : Nm → Value} {z : Value} (h : SMap P k w b ks f z) {p : Addr} (hp : b ≠ p.block) (u : Value) : SMap P k (w.setCell p u) b ks f z := h.congr (Below.heap_setCell w p u b hp)

theorem kOf_fit (hk : P.underlying k = some .string) {es : Array MapEntry} {clock : Nat} (F : Fit P k R0 es clock) {e : MapEntry} (he : e ∈ es.toList) : rg P k R0 e = (.string ((kOf P k) e), .nil) ∧ e.key = strV ((kOf P k) e) ∧ ((kOf P k) e).length ≤ maxLen := by
  obtain ⟨y, hy⟩ := F.reads e he
  have hq := Go.WideElems.rd_key hy
  obtain ⟨x, h1, h2, h3⟩ := key_inv hk hq
  obtain ⟨z, hz, hyz⟩ := rd_val hy
  have e1 := rg_of hy
  have e2 : (kOf P k) e = x := by show strOf (rg P k R0 e).1 = x; rw [e1, h2]; rfl
  have e3 : y = (.string x, .nil) := by
    have : z = (.nil, []) := by simpa [R0] using hz.symm
    rw [this] at hyz
    exact Prod.ext h2 hyz
  rw [e2]; exact ⟨by rw [e1, e3], h1, h3⟩

theorem strV_inj {x y : Nm} (h : strV x = strV y) : x = y := by simpa [strV] using h

/-- m[k] -/
theorem SMap.look (hk : P.underlying k = some .string) {w : World} {b : Nat} {ks : List Nm} {f : Nm → Value} {z : Value} (h : SMap P k w b ks f z) {t e : TypeId} (ht : P.underlying t = some (.map k e)) (hz : (zeroValue e).run P w = .ok z w) (c : Bool) {x : Nm} (hx : x.length ≤ maxLen) :
    (Instr.lookup t (.map (some b)) (strV x) c).run P w = .ok (if c then .tuple #[f x, .bool (decide (x ∈ ks))] else f x) w := by
  obtain ⟨es, clock, hb, F, hp, hv, _, _, hf⟩ := h
  rcases Maps.fit_look c (strK hk) ht hz hb F (key_str hk hx) with ⟨hrun, hno, _⟩ | ⟨e0, y, hm, hke, hrun, _⟩
  · have hn : x ∉ ks := fun hm => by
      obtain ⟨e, he, hke⟩ := List.mem_map.1 (hp.mem_iff.2 hm)
      exact hno e he (by rw [(hv e he).1, hke])
    rw [hrun, hf x hn]; simp [hn]
  · have e1 : (kOf P k) e0 = x := strV_inj (by rw [← (hv e0 hm).1, hke])
    have hm' : x ∈ ks := hp.mem_iff.1 (by rw [← e1]; exact List.mem_map_of_mem hm)
    rw [hrun, (hv e0 hm).2, e1]; simp [hm']

/-- the keys behind a store -/
def addK (ks : List Nm) (x : Nm) : List Nm := if x ∈ ks then ks else ks ++ [x]
theorem mem_addK {ks : List Nm} {x y : Nm} : y ∈ addK ks x ↔ y ∈ ks ∨ y = x := by
  unfold addK; split
  · rename_i h; constructor
    · exact .inl
    · rintro (h1 | rfl); exact h1; exact h
  · simp
theorem addK_len (ks : List Nm) (x : Nm) : (addK ks x).length = if x ∈ ks then ks.length else ks.length + 1 := by unfold addK; split <;> simp
theorem addK_nodup {ks : List Nm} (h : ks.Nodup) (x : Nm) : (addK ks x).Nodup := by
  unfold addK; split
  · exact h
  · rename_i hx
    rw [List.nodup_append]
    exact ⟨h, by simp, fun a ha b hb => by simp at hb; subst hb; exact fun e => hx (e ▸ ha)⟩

theorem filter_perm_addK {ks : List Nm} (h : ks.Nodup) (x : Nm) : (x :: ks.filter (fun y => decide (y ≠ x))).Perm (addK ks x) := by
  refine (List.perm_ext_iff_of_nodup ?_ (addK_nodup h x)).2 fun y => ?_
  · rw [List.nodup_cons]
    exact ⟨by simp, h.sublist List.filter_sublist⟩
  · rw [mem_addK, List.mem_cons, List.mem_filter]
    by_cases q : y = x
    · simp [q]
    · simp [q]

/-- m[k] = v -/
theorem SMap.store (hk : P.underlying k = some .string) {w : World} {b : Nat} {ks : List Nm} {f : Nm → Value} {z : Value} (h : SMap P k w b ks f z) {t e : TypeId} (ht : P.underlying t = some (.map k e)) {x : Nm} (hx : x.length ≤ maxLen) (hn : ks.length < maxLen) (v : Value) :
    ∃ w', (Instr.mapUpdate t (.map (some b)) (strV x) v).run P w = .ok () w' ∧ SMap P k w' b (addK ks x) (upd f x v) z ∧ w.grownBy w' (some b) ∧ w'.heap.size = w.heap.size := by
  obtain ⟨es, clock, hb, F, hp, hv, hnd, hlen, hf⟩ := h
  have hsz : es.size = ks.length := by have := hp.length_eq; simpa using this
  obtain ⟨es', clock', hrun, F', hput, _, _, hwho⟩ := Maps.fit_store (R' := R0) (val := v) (yv := (.nil, [])) (strK hk) ht hb F (by omega) (fun _ _ _ _ hz => hz) (key_str hk hx) rfl
  have hrd : ∀ e ∈ es'.toList, e.key = strV ((kOf P k) e) := fun e he => (kOf_fit hk F' he).2.1
  have hperm : (es'.toList.map (kOf P k)).Perm (addK ks x) := by
    refine List.Perm.trans ?_ (filter_perm_addK hnd x)
    have h1 : (es'.toList.map (rg P k R0)).Perm ((Lit.string x, DataW.nil) :: (es.toList.map (rg P k R0)).filter (notKey (.string x))) := by
      refine (sorted_perm _).symm.trans ?_
      rw [hput, putKey]
      exact (insert_perm _ _).trans (((sorted_perm _).filter _).cons _)
    have h2 := h1.map (fun p => strOf p.1)
    have e1 : (es'.toList.map (rg P k R0)).map (fun p => strOf p.1) = es'.toList.map (kOf P k) := by rw [List.map_map]; rfl
    rw [e1] at h2
    refine h2.trans ?_
    rw [List.map_cons]
    refine List.Perm.cons _ ?_
    have e2 : ((es.toList.map (rg P k R0)).filter (notKey (.string x))).map (fun p => strOf p.1) = (es.toList.map (kOf P k)).filter (fun y => decide (y ≠ x)) := by
      rw [List.filter_map, List.filter_map, List.map_map]
      have : es.toList.filter (notKey (.string x) ∘ rg P k R0) = es.toList.filter ((fun y => decide (y ≠ x)) ∘ (kOf P k)) := List.filter_congr fun e he => by
        have e3 := (kOf_fit hk F he).1
        simp only [Function.comp, e3, notKey, Lit.sameKey]
        by_cases q : (kOf P k) e = x
        · subst q; simp
        · have q1 : (((kOf P k) e) == x) = false := by simpa using q
          first | (simp [q]; done) | (simp [q, q1]; done) | skip
      rw [this]; rfl
    rw [e2]
    exact hp.filter _
  refine ⟨_, hrun, ⟨es', clock', heap_setBlock_same hb _, F', hperm, fun e he => ⟨hrd e he, ?_⟩, addK_nodup hnd x, fun y hy => ?_, fun y hy => ?_⟩, ⟨rfl, rfl, rfl, by simp [setBlock], fun i _ hi => heap_setBlock_other hb _ (fun e => hi (by rw [e]))⟩, by simp [setBlock]⟩
  · rcases hwho e he with ⟨h1, h2⟩ | ⟨h1, h2⟩
    · have : (kOf P k) e ≠ x := fun e1 => h2 (by rw [hrd e he, e1])
      rw [(hv e h1).2, upd_other _ _ this]
    · have : (kOf P k) e = x := strV_inj (by rw [← hrd e he, h1])
      rw [h2, this, upd_same]
  · rcases mem_addK.1 hy with h1 | rfl
    · exact hlen y h1
    · exact hx
  · rw [mem_addK, not_or] at hy
    rw [upd_other _ _ hy.2]; exact hf y hy.1

/-- in the kit's own word -/
theorem SMap.owns {w : World} {b : Nat} {ks : List Nm} {f : Nm → Value} {z : Value} (h : SMap P k w b ks f z) : ∃ D : DataW Unit, w.ownsMap P k R0 b ks.length D ∧ (strKeys D).Perm ks ∧ Maps.size D = ks.length := by
  obtain ⟨es, clock, hb, F, hp, hv, hnd, hlen, hf⟩ := h
  have hsz : es.size = ks.length := by have := hp.length_eq; simpa using this
  refine ⟨_, ⟨es, clock, hb, F, by omega, rfl⟩, ?_, ?_⟩
  · refine List.Perm.trans ?_ hp
    have h2 := (sorted_perm (es.toList.map (rg P k R0))).map (fun p => strOf p.1)
    rw [List.map_map] at h2
    exact h2
  · show List.length _ = _
    rw [length_sorted]; simpa using hsz
end
end Go.Proofs.YtahiopjplfnlmaaGreatDoor
