/- What the opening of an array, of a struct lays: its cells. -/
import Derived.Test.YtoefaghakjcfcaaOpenU8
namespace Go.Proofs.Ytoefaghakjcfcaa
open Go.ChangeShapes Go.WideShapes Go.ChangeAt Go.RowKit

section
variable {H : Type} {enc : TypeId × Value → H} {P : Program} {w : World} {base : Nat} {spare : Nat → Bool} {held : Bool}
theorem mapM_some {α β : Type} {f : α → Option β} : ∀ {l : List α} {ys : List β}, l.mapM f = some ys → ∀ x ∈ l, ∃ y, f x = some y := by
  intro l
  induction l with
  | nil => intro ys _ x hx; simp at hx
  | cons a r ih =>
    intro ys h x hx
    rw [List.mapM_cons] at h
    cases ha : f a with
    | none => simp [ha] at h
    | some b =>
      cases hr : r.mapM f with
      | none => simp [ha, hr] at h
      | some bs =>
        rcases List.mem_cons.1 hx with rfl | hx
        · exact ⟨b, ha⟩
        · exact ih hr x hx

theorem trod_int_cells {t : TypeId} {k : IntKind} {fuel : Nat} {cs : List Value} {y : DataW H × List MemPlace} (ht : P.underlying t = some (.int k)) (h : DataW.trod enc P w base spare held fuel t cs = some y) :
    ∃ z, cs = [.int k z] ∧ (Lit.int k z).wf = true := by
  obtain ⟨n', h, _, hw⟩ := DataW.trod_int ht h
  exact ⟨n', h, hw⟩
theorem trod_bool_cells {t : TypeId} {fuel : Nat} {cs : List Value} {y : DataW H × List MemPlace} (ht : P.underlying t = some .bool) (h : DataW.trod enc P w base spare held fuel t cs = some y) :
    ∃ z, cs = [.bool z] := by
  cases fuel with
  | zero => simp [DataW.trod] at h
  | succ m =>
    rw [DataW.trod_step] at h
    unfold DataW.trodStep at h
    rw [ht] at h
    match cs, h with
    | [.bool b], _ => exact ⟨b, rfl⟩

theorem trod_arr_cells {t e : TypeId} {n : Nat} {k : IntKind} {fuel : Nat} {cs : List Value} {y : DataW H × List MemPlace} (ht : P.underlying t = some (.array n e)) (he : P.underlying e = some (.int k)) (hc : P.cellsOf e = 1) (hn : P.cellsOf t = n)
    (h : DataW.trod enc P w base spare held fuel t cs = some y) : ∃ zs : List Int, cs = zs.map (.int k) ∧ zs.length = n ∧ ∀ z ∈ zs, (Lit.int k z).wf = true := by
  cases fuel with
  | zero => simp [DataW.trod] at h
  | succ m =>
    rw [DataW.trod_step] at h
    unfold DataW.trodStep at h
    rw [ht] at h
    simp only at h
    split at h
    · rename_i hl
      rw [hn] at hl
      simp only [Option.map_eq_some_iff] at h
      obtain ⟨ys, hy, _⟩ := h
      have each : ∀ i (hi : i < cs.length), ∃ z, cs[i] = .int k z ∧ (Lit.int k z).wf = true := by
        intro i hi
        obtain ⟨y, hy⟩ := mapM_some hy i (by rw [List.mem_range]; omega)
        obtain ⟨z, hz, hw⟩ := trod_int_cells he hy
        rw [hc, Nat.mul_one] at hz
        refine ⟨z, ?_, hw⟩
        have h0 : ((cs.drop i).take 1)[0]? = some (.int k z) := by rw [hz]; rfl
        rw [List.getElem?_take, if_pos (by omega), List.getElem?_drop, Nat.add_zero, List.getElem?_eq_getElem hi] at h0
        exact Option.some.inj h0
      refine ⟨cs.map fun v => match v with | .int _ z => z | _ => 0, ?_, by simpa using hl, ?_⟩
      · apply List.ext_getElem
        · simp
        · intro i h1 h2
          obtain ⟨z, hz, _⟩ := each i h1
          simp [hz]
      · intro z hz
        rw [List.mem_map] at hz
        obtain ⟨v, hv, rfl⟩ := hz
        obtain ⟨i, hi, rfl⟩ := List.mem_iff_getElem.1 hv
        obtain ⟨z, hz, hw⟩ := each i hi
        rw [hz]; exact hw
    · simp at h

theorem trod_struct_cells {t : TypeId} {fs : Array Field} {fuel : Nat} {cs : List Value} {y : DataW H × List MemPlace} (ht : P.underlying t = some (.struct fs)) (h : DataW.trod enc P w base spare held fuel t cs = some y) :
    cs.length = P.cellsOf t ∧ ∃ m, ∀ f ∈ fs.toList, ∃ y, DataW.trod enc P w base spare held m f.type ((cs.drop f.offset).take (P.cellsOf f.type)) = some y := by
  cases fuel with
  | zero => simp [DataW.trod] at h
  | succ m =>
    rw [DataW.trod_step] at h
    unfold DataW.trodStep at h
    rw [ht] at h
    simp only at h
    split at h
    · rename_i hl
      simp only [Option.map_eq_some_iff] at h
      obtain ⟨ys, hy, _⟩ := h
      exact ⟨hl, m, fun f hf => mapM_some hy f hf⟩
    · simp at h
end

theorem u32_ofInt {z : Int} (h : (Lit.int .u32 z).wf = true) : U32 (BitVec.ofInt 32 z) = z := by
  have h2 := (Lit.wf_int_iff .u32 z).1 h
  have : 0 ≤ z ∧ z ≤ 4294967295 := ⟨h2.1, h2.2⟩
  rw [U32_eq, BitVec.toNat_ofInt]; omega
theorem u32s_ofInt {zs : List Int} (h : ∀ z ∈ zs, (Lit.int .u32 z).wf = true) : zs.map (.int .u32) = u32s (zs.map (BitVec.ofInt 32)) := by
  rw [u32s, List.map_map]
  apply List.map_congr_left
  intro z hz
  simp only [Function.comp_apply, u32_ofInt (h z hz)]
theorem u8s_ofInt {zs : List Int} (h : ∀ z ∈ zs, (Lit.int .u8 z).wf = true) : zs.map (.int .u8) = u8s (zs.map (BitVec.ofInt 8)) := by
  rw [u8s, List.map_map]
  apply List.map_congr_left
  intro z hz
  simp only [Function.comp_apply, u8_ofInt (h z hz)]
end Go.Proofs.Ytoefaghakjcfcaa
