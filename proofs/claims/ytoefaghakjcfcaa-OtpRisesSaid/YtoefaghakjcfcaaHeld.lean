/- Steps of a region that draws its order, one at a time, by hand: a load is taken first, then the calls come one behind the other. -/
import Derived.Test.YtoefaghakjcfcaaJoin
import Derived.Deep.RegionHeld3
namespace Go.Proofs.Ytoefaghakjcfcaa
open Go.RowKit

section
variable {P : Program} {ops : Array Oper} {Q : Exit → Act → World → Prop} {md : Region.Mode} {S : World → Prop}

/-- An operation that yields v in every world that meets S is taken first. -/
theorem held_take (i : Nat) {oi : Oper} {v : Value} {fuel d : Nat} {listed : Array Bool} {l : List Value} {D : List Deferred} {w : World} (hi : ops[i]? = some oi) (hd : oi.dst = some d)
    (hs : Region.noSelect ops = true) (hf : Region.free md ops listed i = true) (hr : (Region.ready md ops listed).contains i = true)
    (hQ : ∀ c a w, Q (.panic c) (a.put oi.dst v) w → Q (.panic c) a w) (hw : Region.wanted oi (yielded ops l.toArray) = true)
    (hy : ∀ w, S w → (execOp (Act.eval ⟨l.toArray, D⟩) oi).run P w = .ok (.value v) w) (hS : S w)
    (h : wpAnyH P md ops Q S fuel (listed.setIfInBounds i true) ⟨(l.set d v).toArray, D⟩ w) : wpAnyH P md ops Q S (fuel + 1) listed ⟨l.toArray, D⟩ w := by
  refine wpAnyH_take hi hs hf hr hQ (Or.inl ⟨hw, hy⟩) hS ?_
  simp only [hd, Act.put, List.setIfInBounds_toArray]
  exact h
/-- The one operation that may come up, and it is no call. -/
theorem held_op (i : Nat) {oi : Oper} {v : Value} {fuel d : Nat} {listed : Array Bool} {l : List Value} {D : List Deferred} {w w' : World} (hi : ops[i]? = some oi) (hd : oi.dst = some d)
    (hr : Region.ready md ops listed = [i]) (hw : Region.wanted oi (yielded ops l.toArray) = true) (hrun : (execOp (Act.eval ⟨l.toArray, D⟩) oi).run P w = .ok (.value v) w') (hS : S w')
    (h : wpAnyH P md ops Q S fuel (listed.setIfInBounds i true) ⟨(l.set d v).toArray, D⟩ w') : wpAnyH P md ops Q S (fuel + 1) listed ⟨l.toArray, D⟩ w := by
  refine wpAnyH_all hr (by simp) fun j hj => ?_
  obtain rfl : j = i := by simpa using hj
  refine wpOp_step hi fun K' hK => ?_
  rw [if_pos hw]
  unfold Oper.wp
  rw [hrun]
  show K' (Act.put ⟨l.toArray, D⟩ oi.dst v) w'
  refine hK _ _ ⟨hS, ?_⟩
  simp only [hd, Act.put, List.setIfInBounds_toArray]
  exact h
/-- The one operation that may come up is a call of a Go function. -/
theorem held_call (i : Nat) {oi : Oper} {fuel d : Nat} {listed : Array Bool} {l : List Value} {D : List Deferred} {w : World} {f : FuncId} {args : Array Value} (hi : ops[i]? = some oi) (hd : oi.dst = some d)
    (hr : Region.ready md ops listed = [i]) (hw : Region.wanted oi (yielded ops l.toArray) = true) (hrun : (execOp (Act.eval ⟨l.toArray, D⟩) oi).run P w = .ok (.enter f args) w)
    (h : Calls P f args w fun e w' => ∃ v, e = .returned v ∧ S w' ∧ wpAnyH P md ops Q S fuel (listed.setIfInBounds i true) ⟨(l.set d v).toArray, D⟩ w') : wpAnyH P md ops Q S (fuel + 1) listed ⟨l.toArray, D⟩ w := by
  refine wpAnyH_all hr (by simp) fun j hj => ?_
  obtain rfl : j = i := by simpa using hj
  refine wpOp_step hi fun K' hK => ?_
  rw [if_pos hw]
  unfold Oper.wp
  rw [hrun]
  refine Calls.mono h ?_
  rintro e w' ⟨v, rfl, hS, h⟩
  refine hK _ _ ⟨hS, ?_⟩
  simp only [hd, Act.put, List.setIfInBounds_toArray]
  exact h
theorem step_op (i : Nat) {oi : Oper} {v : Value} {fuel d : Nat} {listed : Array Bool} {l : List Value} {D : List Deferred} {w w' : World} (hi : ops[i]? = some oi) (hd : oi.dst = some d)
    (hw : Region.wanted oi (yielded ops l.toArray) = true) (hrun : (execOp (Act.eval ⟨l.toArray, D⟩) oi).run P w = .ok (.value v) w') (hS : S w')
    (h : wpAnyH P md ops Q S fuel (listed.setIfInBounds i true) ⟨(l.set d v).toArray, D⟩ w') : wpOp P ops Q i (fun a' w' => S w' ∧ wpAnyH P md ops Q S fuel (listed.setIfInBounds i true) a' w') ⟨l.toArray, D⟩ w := by
  refine wpOp_step hi fun K' hK => ?_
  rw [if_pos hw]
  unfold Oper.wp
  rw [hrun]
  show K' (Act.put ⟨l.toArray, D⟩ oi.dst v) w'
  refine hK _ _ ⟨hS, ?_⟩
  simp only [hd, Act.put, List.setIfInBounds_toArray]
  exact h
theorem step_call (i : Nat) {oi : Oper} {fuel d : Nat} {listed : Array Bool} {l : List Value} {D : List Deferred} {w : World} {f : FuncId} {args : Array Value} (hi : ops[i]? = some oi) (hd : oi.dst = some d)
    (hw : Region.wanted oi (yielded ops l.toArray) = true) (hrun : (execOp (Act.eval ⟨l.toArray, D⟩) oi).run P w = .ok (.enter f args) w)
    (h : Calls P f args w fun e w' => ∃ v, e = .returned v ∧ S w' ∧ wpAnyH P md ops Q S fuel (listed.setIfInBounds i true) ⟨(l.set d v).toArray, D⟩ w') : wpOp P ops Q i (fun a' w' => S w' ∧ wpAnyH P md ops Q S fuel (listed.setIfInBounds i true) a' w') ⟨l.toArray, D⟩ w := by
  refine wpOp_step hi fun K' hK => ?_
  rw [if_pos hw]
  unfold Oper.wp
  rw [hrun]
  refine Calls.mono h ?_
  rintro e w' ⟨v, rfl, hS, h⟩
  refine hK _ _ ⟨hS, ?_⟩
  simp only [hd, Act.put, List.setIfInBounds_toArray]
  exact h
/-- Two may come up: each way is walked. -/
theorem held_two {i j fuel : Nat} {listed : Array Bool} {a : Act} {w : World} (hr : Region.ready md ops listed = [i, j])
    (h1 : wpOp P ops Q i (fun a' w' => S w' ∧ wpAnyH P md ops Q S fuel (listed.setIfInBounds i true) a' w') a w) (h2 : wpOp P ops Q j (fun a' w' => S w' ∧ wpAnyH P md ops Q S fuel (listed.setIfInBounds j true) a' w') a w) : wpAnyH P md ops Q S (fuel + 1) listed a w := by
  refine wpAnyH_all hr (by simp) fun k hk => ?_
  have : k = i ∨ k = j := by simpa using hk
  rcases this with rfl | rfl
  · exact h1
  · exact h2
/-- A load of a long array is taken first. -/
theorem held_load (i : Nat) {oi : Oper} {fuel d : Nat} {listed : Array Bool} {l : List Value} {D : List Deferred} {w : World} (ty : TypeId) (x : Operand) (b o : Nat) (cs : List Value) (td : TypeDesc) (hi : ops[i]? = some oi) (hd : oi.dst = some d)
    (hs : Region.noSelect ops = true) (hf : Region.free md ops listed i = true) (hr : (Region.ready md ops listed).contains i = true)
    (hQ : ∀ c a w, Q (.panic c) (a.put oi.dst (.agg cs.toArray)) w → Q (.panic c) a w) (hw : Region.wanted oi (yielded ops l.toArray) = true)
    (ho : oi.op = .load ty x) (hx : Act.eval ⟨l.toArray, D⟩ x = .pointer (some ⟨b, o, none⟩)) (hc : ∀ w, S w → w.rangeAt b o cs) (hu : P.underlying ty = some td) (htd : td.isRow = true) (hn : (P.info? ty).map (·.size) = some cs.length) (hS : S w)
    (h : wpAnyH P md ops Q S fuel (listed.setIfInBounds i true) ⟨(l.set d (.agg cs.toArray)).toArray, D⟩ w) : wpAnyH P md ops Q S (fuel + 1) listed ⟨l.toArray, D⟩ w := by
  refine wpAnyH_take hi hs hf hr hQ (yieldsIf_load_mid (a := ⟨l.toArray, D⟩) hw ty x ho b o hx cs td hc hu htd hn) hS ?_
  simp only [hd, Act.put, List.setIfInBounds_toArray]
  exact h
end
end Go.Proofs.Ytoefaghakjcfcaa
