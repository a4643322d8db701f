/- Laws for arrays and structs whose cells are known as a list: loaded, stored, copied. The world behind a store is a name, with what is known of it. -/
import Derived.Test.YtoefaghakjcfcaaLib
import Derived.Laws.CopyOwn
namespace Go.Proofs.Ytoefaghakjcfcaa
open Go.RowKit

theorem addr_add (b o j : Nat) : (⟨b, o, none⟩ : Addr).add j = ⟨b, o + j, none⟩ := by unfold Addr.add; split <;> simp_all

section
variable {P : Program}

theorem run_isAgg' {ty : TypeId} {d : TypeDesc} (hu : P.underlying ty = some d) (hd : (match d with | .struct _ | .array _ _ => true | _ => false) = true) (w : World) : (isAgg ty).run P w = .ok true w := by
  unfold isAgg
  rw [Sem.run_bind, run_underlying hu w]
  cases d <;> simp_all

theorem run_load_blk (w : World) (b off n : Nat) (T ty : TypeId) (cs : List Value) (d : TypeDesc) (hb : Blk w b T cs) (hu : P.underlying ty = some d)
    (hd : (match d with | .struct _ | .array _ _ => true | _ => false) = true) (hi : (P.info? ty).map (·.size) = some n) (hle : off + n ≤ cs.length) :
    (loadVar ty ⟨b, off, none⟩).run P w = .ok (.agg ((cs.drop off).take n).toArray) w := by
  have hlen : ((cs.drop off).take n).length = n := by simp; omega
  have hl : (loadCells ⟨b, off, none⟩ ((cs.drop off).take n).length).run P w = .ok ((cs.drop off).take n).toArray w :=
    run_loadCells_list (P := P) w ⟨b, off, none⟩ _ (fun j v hv => by
      rw [addr_add, hb.cell]
      have hj : j < n := by
        have := (List.getElem?_eq_some_iff.1 hv).1
        omega
      rw [List.getElem?_take, if_pos hj, List.getElem?_drop] at hv
      exact hv)
  rw [hlen] at hl
  cases hq : P.info? ty with
  | none => simp [hq] at hi
  | some i =>
    have hs : i.size = n := by simpa [hq] using hi
    simp [loadVar, Sem.run_bind, run_isAgg' hu hd w, sizeOf, typeInfo, hq, hs, hl]

theorem run_load_cells (w : World) (b off : Nat) (ty : TypeId) (vs : List Value) (d : TypeDesc) (hc : ∀ j v, vs[j]? = some v → w.cell? ⟨b, off + j, none⟩ = some v) (hu : P.underlying ty = some d)
    (hd : (match d with | .struct _ | .array _ _ => true | _ => false) = true) (hi : (P.info? ty).map (·.size) = some vs.length) :
    (loadVar ty ⟨b, off, none⟩).run P w = .ok (.agg vs.toArray) w := by
  have hl : (loadCells ⟨b, off, none⟩ vs.length).run P w = .ok vs.toArray w :=
    run_loadCells_list (P := P) w ⟨b, off, none⟩ _ (fun j v hv => by rw [addr_add]; exact hc j v hv)
  cases hq : P.info? ty with
  | none => simp [hq] at hi
  | some i =>
    have hs : i.size = vs.length := by simpa [hq] using hi
    simp [loadVar, Sem.run_bind, run_isAgg' hu hd w, sizeOf, typeInfo, hq, hs, hl]
theorem wpList_load_cells {ops : Array Oper} {rest : List Oper} {a : Act} {w : World} {Q : Exit → Act → World → Prop} {dst : Option Tmp} {tt : TypeId} {pos : String} {aft : Array Edge} {ty : TypeId} {x : Operand}
    (b off : Nat) (vs : List Value) (hx : a.eval x = .pointer (some ⟨b, off, none⟩)) (d : TypeDesc) (hc : ∀ j v, vs[j]? = some v → w.cell? ⟨b, off + j, none⟩ = some v) (hu : P.underlying ty = some d)
    (hd : (match d with | .struct _ | .array _ _ => true | _ => false) = true) (hi : (P.info? ty).map (·.size) = some vs.length)
    (h : wpList P ops Q rest (a.put dst (.agg vs.toArray)) w) : wpList P ops Q (⟨dst, .load ty x, tt, pos, aft, none⟩ :: rest) a w :=
  wpList_plain rfl fun K hK => by
    unfold Oper.wp execOp
    simp only [hx, Instr.loadAt, Instr.sureAddr, Sem.run_bind, Sem.run_pure, Result.andThen_ok, run_load_cells w b off ty vs d hc hu hd hi]
    exact hK _ _ h

theorem wp_load_blk {o : Oper} {a : Act} {w : World} {K : Act → World → Prop} {Q : Exit → Act → World → Prop} (ty : TypeId) (x : Operand) (ho : o.op = .load ty x)
    (b off n : Nat) (hx : a.eval x = .pointer (some ⟨b, off, none⟩)) (T : TypeId) (cs : List Value) (d : TypeDesc) (hb : Blk w b T cs) (hu : P.underlying ty = some d)
    (hd : (match d with | .struct _ | .array _ _ => true | _ => false) = true) (hi : (P.info? ty).map (·.size) = some n) (hle : off + n ≤ cs.length)
    (h : K (a.put o.dst (.agg ((cs.drop off).take n).toArray)) w) : o.wp P a w K Q := by
  unfold Oper.wp execOp
  simp only [ho, hx, Instr.loadAt, Instr.sureAddr, Sem.run_bind, Sem.run_pure, Result.andThen_ok, run_load_blk w b off n T ty cs d hb hu hd hi hle]
  exact h
theorem wpList_load_blk {ops : Array Oper} {rest : List Oper} {a : Act} {w : World} {Q : Exit → Act → World → Prop} {dst : Option Tmp} {tt : TypeId} {pos : String} {aft : Array Edge} {ty : TypeId} {x : Operand}
    (b off n : Nat) (vs : List Value) (hx : a.eval x = .pointer (some ⟨b, off, none⟩)) (T : TypeId) (cs : List Value) (d : TypeDesc) (hb : Blk w b T cs) (hu : P.underlying ty = some d)
    (hd : (match d with | .struct _ | .array _ _ => true | _ => false) = true) (hi : (P.info? ty).map (·.size) = some n) (hle : off + n ≤ cs.length) (hv : (cs.drop off).take n = vs)
    (h : wpList P ops Q rest (a.put dst (.agg vs.toArray)) w) : wpList P ops Q (⟨dst, .load ty x, tt, pos, aft, none⟩ :: rest) a w :=
  wpList_plain rfl fun _ hK => wp_load_blk ty x rfl b off n hx T cs d hb hu hd hi hle (hK _ _ (by rw [hv]; exact h))

-- GUARDS: '(with_reducible refine at_store T ?_; ..)' fails at once where the next operation is another one
theorem at_copy {ops : Array Oper} {rest : List Oper} {a : Act} {w : World} {Q : Exit → Act → World → Prop} {dst : Option Tmp} {tt : TypeId} {pos : String} {aft : Array Edge} {args : Array Operand} {ts : Array TypeId}
    (h : wpList P ops Q (⟨dst, .call { callee := .builtin .copy, args := args, argTypes := ts }, tt, pos, aft, none⟩ :: rest) a w) : wpList P ops Q (⟨dst, .call { callee := .builtin .copy, args := args, argTypes := ts }, tt, pos, aft, none⟩ :: rest) a w := h
theorem at_store (ty : TypeId) {ops : Array Oper} {rest : List Oper} {a : Act} {w : World} {Q : Exit → Act → World → Prop} {dst : Option Tmp} {tt : TypeId} {pos : String} {aft : Array Edge} {x y : Operand}
    (h : wpList P ops Q (⟨dst, .store ty x y, tt, pos, aft, none⟩ :: rest) a w) : wpList P ops Q (⟨dst, .store ty x y, tt, pos, aft, none⟩ :: rest) a w := h
theorem at_load (ty : TypeId) {ops : Array Oper} {rest : List Oper} {a : Act} {w : World} {Q : Exit → Act → World → Prop} {dst : Option Tmp} {tt : TypeId} {pos : String} {aft : Array Edge} {x : Operand}
    (h : wpList P ops Q (⟨dst, .load ty x, tt, pos, aft, none⟩ :: rest) a w) : wpList P ops Q (⟨dst, .load ty x, tt, pos, aft, none⟩ :: rest) a w := h

theorem Kept.setRow {w : World} {b : Nat} (cs : Array Value) : Kept (· = b) w (w.setRow b cs) :=
  ⟨rfl, rfl, rfl, by simp [World.setRow], fun k _ hk => setRow_other w b k cs (fun e => hk e)⟩
theorem Blk.setRow {w : World} {b : Nat} {T : TypeId} {cs : List Value} (h : Blk w b T cs) (cs' : List Value) : Blk (w.setRow b cs'.toArray) b T cs' := setRow_heap w b _ _ T _ h

theorem run_store_blk (w : World) (b off : Nat) (T ty : TypeId) (cs vs : List Value) (hb : Blk w b T cs) (hi : (P.info? ty).map (·.size) = some vs.length) (hle : off + vs.length ≤ cs.length) (h1 : ∀ v ∈ vs, v.oneCell' = true) :
    (storeVar ty ⟨b, off, none⟩ (.agg vs.toArray)).run P w = .ok () (w.setRow b (splice cs off vs).toArray) := by
  have hr := run_storeCells_at P b off T vs 0 cs.toArray w hb (by simpa using hle) h1
  cases hq : P.info? ty with
  | none => simp [hq] at hi
  | some i =>
    have hs : i.size = vs.length := by simpa [hq] using hi
    simp [storeVar, Sem.run_bind, sizeOf, typeInfo, hq, hs, Value.cells]
    simpa [splice] using hr
theorem wp_store_blk {o : Oper} {a : Act} {w : World} {K : Act → World → Prop} {Q : Exit → Act → World → Prop} (ty : TypeId) (x y : Operand) (ho : o.op = .store ty x y)
    (b off : Nat) (hx : a.eval x = .pointer (some ⟨b, off, none⟩)) (vs : List Value) (hy : a.eval y = .agg vs.toArray) (T : TypeId) (cs : List Value) (hb : Blk w b T cs)
    (hi : (P.info? ty).map (·.size) = some vs.length) (hle : off + vs.length ≤ cs.length) (h1 : ∀ v ∈ vs, v.oneCell' = true)
    (h : ∀ w', Blk w' b T (splice cs off vs) → Kept (· = b) w w' → K (a.put o.dst undef) w') : o.wp P a w K Q := by
  unfold Oper.wp execOp
  simp only [ho, hx, hy, Instr.storeAt, Instr.sureAddr, Sem.run_bind, Sem.run_pure, Result.andThen_ok, run_store_blk w b off T ty cs vs hb hi hle h1]
  exact h _ (hb.setRow _) (Kept.setRow _)
theorem wpList_store_blk {ops : Array Oper} {rest : List Oper} {a : Act} {w : World} {Q : Exit → Act → World → Prop} {dst : Option Tmp} {tt : TypeId} {pos : String} {aft : Array Edge} {ty : TypeId} {x y : Operand}
    (b off : Nat) (hx : a.eval x = .pointer (some ⟨b, off, none⟩)) (vs : List Value) (hy : a.eval y = .agg vs.toArray) (T : TypeId) (cs : List Value) (hb : Blk w b T cs)
    (hi : (P.info? ty).map (·.size) = some vs.length) (hle : off + vs.length ≤ cs.length) (h1 : ∀ v ∈ vs, v.oneCell' = true)
    (h : ∀ w', Blk w' b T (splice cs off vs) → Kept (· = b) w w' → wpList P ops Q rest (a.put dst undef) w') : wpList P ops Q (⟨dst, .store ty x y, tt, pos, aft, none⟩ :: rest) a w :=
  wpList_plain rfl fun _ hK => wp_store_blk ty x y rfl b off hx vs hy T cs hb hi hle h1 (fun w' h1 h2 => hK _ _ (h w' h1 h2))

/-- copy into a known block. -/
theorem wpList_copy_blk {w : World} {ops : Array Oper} {rest : List Oper} {a : Act} {Q : Exit → Act → World → Prop} {dst : Option Tmp} {tt : TypeId} {pos : String} {aft : Array Edge} {d s : Operand} {dT sT : TypeId}
    (elem : TypeId) (hu : P.underlying dT = some (.slice elem)) (hsz : (P.info? elem).map (·.size) = some 1)
    (dp sp : Option Addr) (dLen dCap sLen sCap : Nat) (hd : a.eval d = .slice dp dLen dCap) (hs : a.eval s = .slice sp sLen sCap)
    (g off : Nat) (cur : List Value) (t : TypeId) (hg : Blk w g t cur) (cs : List Value) (hn : cs.length = Nat.min sLen dLen)
    (hpos : 0 < cs.length → dp = some ⟨g, off, none⟩ ∧ ∃ ad, sp = some ad ∧ ∀ j v, cs[j]? = some v → w.cell? (ad.add j) = some v)
    (hfit : off + cs.length ≤ cur.length) (h1 : ∀ v ∈ cs, v.oneCell' = true)
    (h : ∀ w', Blk w' g t (splice cur off cs) → Kept (· = g) w w' → wpList P ops Q rest (a.put dst (goInt cs.length)) w') :
    wpList P ops Q (⟨dst, .call { callee := .builtin .copy, args := #[d, s], argTypes := #[dT, sT] }, tt, pos, aft, none⟩ :: rest) a w := by
  by_cases h0 : cs.length = 0
  · obtain rfl : cs = [] := List.eq_nil_of_length_eq_zero h0
    refine wpList_copy_nothing rfl d s dT sT rfl elem hu hsz dp sp dLen dCap sLen sCap hd hs (by simpa using hn.symm) ?_
    exact h w (show Blk _ _ _ _ by simpa [splice] using hg) (Kept.refl _ _)
  · obtain ⟨rfl, ad, rfl, hsrc⟩ := hpos (by omega)
    refine wpList_copy_own rfl d s dT sT rfl elem hu hsz g off dLen dCap ad sLen sCap hd hs cur.toArray t hg cs hn hsrc (by simpa using hfit) h1 ?_
    exact h _ (show Blk _ _ _ _ by simpa [splice, Blk] using setRow_heap w g _ _ t _ hg) (Kept.setRow _)

/-- An element of an array's value. -/
theorem run_index_cell (w : World) (T e : TypeId) (n : Nat) (d : TypeDesc) (cs : List Value) (kk : IntKind) (i : Int) (k : Nat) (v : Value) (hu : P.underlying T = some (.array n e)) (he : P.underlying e = some d)
    (hd : (match d with | .struct _ | .array _ _ => true | _ => false) = false) (hz : (P.info? e).map (·.size) = some 1) (hik : i = k) (hk : k < n) (hv : cs[k]? = some v) :
    (Instr.index T (.agg cs.toArray) (.int kk i)).run P w = .ok v w := by
  subst hik
  cases hq : P.info? e with
  | none => simp [hq] at hz
  | some inf =>
    have hs : inf.size = 1 := by simpa [hq] using hz
    have hagg : (isAgg e).run P w = .ok false w := by
      unfold isAgg
      rw [Sem.run_bind, run_underlying he w]
      cases d <;> simp_all
    have hb : (0 : Int) ≤ k ∧ (k : Int) < n := by omega
    simp [Instr.index, asIntOf, run_underlying hu, hb, sizeOf, typeInfo, hq, hs, part, Sem.run_bind, hagg, hv]
    intro h; omega
end

section
variable {P : Program}
theorem run_sizeOf' {e : TypeId} {size : Nat} (hz : (P.info? e).map (·.size) = some size) (w : World) : (sizeOf e).run P w = .ok size w := by
  cases hq : P.info? e with
  | none => simp [hq] at hz
  | some inf =>
    have hs : inf.size = size := by simpa [hq] using hz
    simp [sizeOf, typeInfo, hq, hs]
theorem run_bound (k : IntKind) (i : Int) (n y : Nat) (code : BoundsCode) (hi : i = n) (h : n ≤ y) (w : World) : (Instr.sliceBound (.int k i) y code).run P w = .ok n w := by
  subst hi
  have : (0 : Int) ≤ n ∧ (n : Int) ≤ y := by omega
  simp [Instr.sliceBound, asIntOf, this]
/-- A piece of an array in memory. -/
theorem run_piece_arr {T e : TypeId} {n size : Nat} (hu : P.underlying T = some (.array n e)) (hz : (P.info? e).map (·.size) = some size) (b o : Nat) (k1 k2 : IntKind) (lo hi : Int) (l h : Nat)
    (hl : lo = l) (hh : hi = h) (h1 : l ≤ h) (h2 : h ≤ n) (hne : l < n) (w : World) :
    (Instr.sliceAt T (.pointer (some ⟨b, o, none⟩)) (some (.int k1 lo)) (some (.int k2 hi)) none).run P w = .ok (.slice (some ⟨b, o + l * size, none⟩) (h - l) (n - l)) w := by
  have a1 := fun c w => run_bound (P := P) k2 hi h n c hh h2 w
  have a2 := fun c w => run_bound (P := P) k1 lo l h c hl h1 w
  simp [Instr.sliceAt, Sem.run_bind, run_underlying hu, Instr.sureAddr, Instr.sliceBounds, a1, a2, run_sizeOf' hz, addr_add, show ¬ n = l by omega]
theorem run_piece_arr_from {T e : TypeId} {n size : Nat} (hu : P.underlying T = some (.array n e)) (hz : (P.info? e).map (·.size) = some size) (b o : Nat) (k1 : IntKind) (lo : Int) (l : Nat)
    (hl : lo = l) (hne : l < n) (w : World) :
    (Instr.sliceAt T (.pointer (some ⟨b, o, none⟩)) (some (.int k1 lo)) none none).run P w = .ok (.slice (some ⟨b, o + l * size, none⟩) (n - l) (n - l)) w := by
  have a2 := fun c w => run_bound (P := P) k1 lo l n c hl (by omega) w
  simp [Instr.sliceAt, Sem.run_bind, run_underlying hu, Instr.sureAddr, Instr.sliceBounds, a2, run_sizeOf' hz, addr_add, show ¬ n = l by omega]
/-- A slice as an array. -/
theorem run_arrayAt {T e : TypeId} {n : Nat} (a : Addr) (len cap : Nat) (hu : P.underlying T = some (.array n e)) (h : n ≤ len) (w : World) :
    (Instr.arrayAt T (.slice (some a) len cap)).run P w = .ok (.pointer (some a)) w := by
  simp [Instr.arrayAt, Sem.run_bind, run_underlying hu, h, show ¬ len < n by omega]
/-- A piece of a slice. -/
theorem run_piece {T e : TypeId} {size : Nat} (hu : P.underlying T = some (.slice e)) (hz : (P.info? e).map (·.size) = some size) (b o n cap : Nat) (k1 k2 : IntKind) (lo hi : Int) (l h : Nat)
    (hl : lo = l) (hh : hi = h) (h1 : l ≤ h) (h2 : h ≤ cap) (hne : l < cap) (w : World) :
    (Instr.slice T (.slice (some ⟨b, o, none⟩) n cap) (some (.int k1 lo)) (some (.int k2 hi)) none).run P w = .ok (.slice (some ⟨b, o + l * size, none⟩) (h - l) (cap - l)) w := by
  have a1 := fun c w => run_bound (P := P) k2 hi h cap c hh h2 w
  have a2 := fun c w => run_bound (P := P) k1 lo l h c hl h1 w
  simp [Instr.slice, Sem.run_bind, run_underlying hu, Instr.sliceBounds, a1, a2, run_sizeOf' hz, addr_add, show ¬ cap = l by omega]
theorem run_piece_from {T e : TypeId} {size : Nat} (hu : P.underlying T = some (.slice e)) (hz : (P.info? e).map (·.size) = some size) (b o n cap : Nat) (k1 : IntKind) (lo : Int) (l : Nat)
    (hl : lo = l) (h1 : l ≤ n) (hne : l < cap) (w : World) :
    (Instr.slice T (.slice (some ⟨b, o, none⟩) n cap) (some (.int k1 lo)) none none).run P w = .ok (.slice (some ⟨b, o + l * size, none⟩) (n - l) (cap - l)) w := by
  have a2 := fun c w => run_bound (P := P) k1 lo l n c hl h1 w
  simp [Instr.slice, Sem.run_bind, run_underlying hu, Instr.sliceBounds, a2, run_sizeOf' hz, addr_add, show ¬ cap = l by omega]
end

theorem run_piece_from_any {P : Program} {T e : TypeId} {size : Nat} (hu : P.underlying T = some (.slice e)) (hz : (P.info? e).map (·.size) = some size) (a : Option Addr) (n cap : Nat) (k1 : IntKind) (lo : Int) (l : Nat)
    (hl : lo = l) (h1 : l ≤ n) (h2 : n ≤ cap) : ∃ a' : Option Addr, (∀ w, (Instr.slice T (.slice a n cap) (some (.int k1 lo)) none none).run P w = .ok (.slice a' (n - l) (cap - l)) w) ∧ (∀ b o, a = some ⟨b, o, none⟩ → l < cap → a' = some ⟨b, o + l * size, none⟩) := by
  refine ⟨if cap = l then a else a.map (·.add (l * size)), fun w => ?_, fun b o ha hlt => ?_⟩
  · have a2 := fun c w => run_bound (P := P) k1 lo l n c hl h1 w
    simp [Instr.slice, Sem.run_bind, run_underlying hu, Instr.sliceBounds, a2, run_sizeOf' hz]
  · rw [if_neg (by omega), ha]; simp [addr_add]

theorem results_blk {P : Program} {fn : Func} {p : Tmp} {ty : TypeId} (h : fn.results = #[.cell p ty]) (tmps : Array Value) (w : World) (g : Nat) (t : TypeId) (cs : List Value) (d : TypeDesc)
    (hp : tmps.getD p undef = .pointer (some ⟨g, 0, none⟩)) (hg : Blk w g t cs)
    (hu : P.underlying ty = some d) (hd : (match d with | .struct _ | .array _ _ => true | _ => false) = true) (hi : (P.info? ty).map (·.size) = some cs.length) :
    (results fn tmps).run P w = .ok (.agg cs.toArray) w :=
  results_cell_row h tmps w g t cs.toArray (0, 0) d hp hg hu hd (by simpa using hi)

theorem fill_set {α : Type} (W : List α) (n k : Nat) (z x : α) (hW : W.length = n) (hk : k < n) (hx : W[k]? = some x) :
    (W.take k ++ List.replicate (n - k) z).set k x = W.take (k + 1) ++ List.replicate (n - (k + 1)) z := by
  rw [List.set_append_right _ _ (by rw [List.length_take]; omega), List.length_take, show k - min k W.length = 0 by omega, show n - k = (n - (k + 1)) + 1 by omega, List.replicate_succ, List.set_cons_zero,
    List.take_add_one, hx]
  simp
theorem fill_get {α : Type} (W : List α) (n k : Nat) (z : α) (hW : W.length = n) (hk : k < n) : (W.take k ++ List.replicate (n - k) z)[k]? = some z := by
  rw [List.getElem?_append_right (by rw [List.length_take]; omega), List.length_take, List.getElem?_replicate, if_pos (by omega)]
theorem allocs1 (w : World) (A : List Value) (ta : TypeId) :
    ∃ W, w.alloc (.cells A.toArray ta) = W ∧ Blk W w.heap.size ta A ∧ Below w.heap.size w W ∧ W.heap.size = w.heap.size + 1 :=
  ⟨_, rfl, Blk.new w ta A, (Below.refl _ _).alloc (Nat.le_refl _) _, by simp⟩
theorem allocs2 (w : World) (A B : List Value) (ta tb : TypeId) :
    ∃ W, (w.alloc (.cells A.toArray ta)).alloc (.cells B.toArray tb) = W ∧ Blk W w.heap.size ta A ∧ Blk W (w.heap.size + 1) tb B ∧ Below w.heap.size w W ∧ W.heap.size = w.heap.size + 2 :=
  ⟨_, rfl, (Blk.new w ta A).alloc _, by have := Blk.new (w.alloc (.cells A.toArray ta)) tb B; simpa only [World.size_alloc] using this,
    ((Below.refl _ _).alloc (Nat.le_refl _) _).alloc (by rw [World.size_alloc]; omega) _, by simp⟩
theorem allocs3 (w : World) (A B C : List Value) (ta tb tc : TypeId) :
    ∃ W, ((w.alloc (.cells A.toArray ta)).alloc (.cells B.toArray tb)).alloc (.cells C.toArray tc) = W ∧ Blk W w.heap.size ta A ∧ Blk W (w.heap.size + 1) tb B ∧ Blk W (w.heap.size + 2) tc C ∧ Below w.heap.size w W ∧ W.heap.size = w.heap.size + 3 :=
  ⟨_, rfl, ((Blk.new w ta A).alloc _).alloc _, by have := (Blk.new (w.alloc (.cells A.toArray ta)) tb B).alloc (.cells C.toArray tc); simpa only [World.size_alloc] using this,
    by have := Blk.new ((w.alloc (.cells A.toArray ta)).alloc (.cells B.toArray tb)) tc C; simpa only [World.size_alloc] using this,
    (((Below.refl _ _).alloc (Nat.le_refl _) _).alloc (by rw [World.size_alloc]; omega) _).alloc (by rw [World.size_alloc, World.size_alloc]; omega) _, by simp⟩

theorem results_blk_tmp {P : Program} {fn : Func} {p u : Tmp} {ty : TypeId} (h : fn.results = #[.cell p ty, .tmp u]) (tmps : Array Value) (w : World) (g : Nat) (t : TypeId) (cs : List Value) (d : TypeDesc) (v : Value)
    (hp : tmps.getD p undef = .pointer (some ⟨g, 0, none⟩)) (hv : tmps.getD u undef = v) (hg : Blk w g t cs)
    (hu : P.underlying ty = some d) (hd : (match d with | .struct _ | .array _ _ => true | _ => false) = true) (hi : (P.info? ty).map (·.size) = some cs.length) :
    (results fn tmps).run P w = .ok (.tuple #[.agg cs.toArray, v]) w := by
  have hp' : tmps[p]?.getD undef = .pointer (some ⟨g, 0, none⟩) := by simpa using hp
  have hv' : tmps[u]?.getD undef = v := by simpa using hv
  have hl := run_load_blk (P := P) w g 0 cs.length t ty cs d hg hu hd hi (by omega)
  simp only [List.drop_zero, List.take_length] at hl
  simp [results, h, hp', hv', asAddr, hl]

theorem splice_all {α : Type} (L cs : List α) (h : cs.length = L.length) : splice L 0 cs = cs := by
  simp [splice, h]

end Go.Proofs.Ytoefaghakjcfcaa
