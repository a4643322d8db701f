/- The laws' steps on a chip, as contracts: words, a plan, what is done. -/
import Derived.Test.YtoefaghakjcfcaaFirst11
import Derived.Test.YtoefaghakjcfcaaRefRow
import Derived.Test.YtoefaghakjcfcaaLay11
import Derived.Test.YtoefaghakjcfcaaAwake11
namespace Go.Proofs.Ytoefaghakjcfcaa
open Go.RowKit

theorem chip_words (r : Ref) (ws : List (BitVec 32 × Bool)) (sl : Bool) (w : World) (h : ChipAt w r ws sl) :
    Calls Try.prog 13 #[.pointer (some ⟨r.ba, 0, none⟩)] w fun e w' => ∃ g cap, e = .returned (.slice (some ⟨g, 0, none⟩) 64 cap) ∧ 64 ≤ cap ∧ w.heap.size ≤ g ∧ g < w'.heap.size ∧ U32At w' g 0 (vals ws) ∧ Below w.heap.size w w' := by
  refine (fuse_words _ _ _ _ _ h.arr).mono ?_
  rintro e w' ⟨v, rfl, hown, hb⟩
  have hl := h.len
  rw [hl] at hown
  obtain ⟨g, cap, rfl, hg, hg', hc, _⟩ := own_parts hown (by omega) (by omega)
  exact ⟨g, cap, rfl, hc, hg, hg', U32At.own hown, hb⟩

/-- Where the words to be programmed lie. -/
structure WritesAt (w : World) (base : Nat) (a : Option Addr) (b n cap : Nat) (p : List (Nat × BitVec 32)) : Prop where
  len : p.length = n
  le : n ≤ cap
  ptr : n = 0 ∨ a = some ⟨b, 0, none⟩
  lt : n = 0 ∨ (base ≤ b ∧ b < w.heap.size)
  cells : ∀ i, (h : i < p.length) → w.cell? ⟨b, 0 + i * 2, none⟩ = some (.int .i64 p[i].1) ∧ w.cell? ⟨b, 0 + i * 2 + 1, none⟩ = some (.int .u32 (U32 p[i].2))
theorem WritesAt.of_own {w : World} {base : Nat} {v : Value} {p : List (Nat × BitVec 32)} (h : w.ownsRow base 57 2 v p.length (writeCells p)) :
    ∃ (a : Option Addr) (b cap : Nat), v = .slice a p.length cap ∧ WritesAt w base a b p.length cap p := by
  obtain ⟨a, b, cap, rfl, h1, h2, h3⟩ := Plans.slice h
  obtain ⟨a', g', cap', e, hc, _⟩ := own_slice h
  simp only [Value.slice.injEq] at e
  obtain ⟨_, _, rfl⟩ := e
  exact ⟨a, b, cap, rfl, rfl, hc, h1, h2, h3⟩
theorem WritesAt.below {w w' : World} {base n cap b B : Nat} {a : Option Addr} {p : List (Nat × BitVec 32)} (h : WritesAt w base a b n cap p) (k : Below B w w') (hB : w.heap.size ≤ B) : WritesAt w' base a b n cap p := by
  have hs := k.size
  have hl := h.len
  have hlt := h.lt
  refine ⟨h.len, h.le, h.ptr, ?_, fun i hi => ?_⟩
  · rcases h.lt with h | h
    · exact .inl h
    · exact .inr (by omega)
  · have hb : b < B := by omega
    have := h.cells i hi
    exact ⟨(k.cell (p := ⟨b, 0 + i * 2, none⟩) hb).trans this.1, (k.cell (p := ⟨b, 0 + i * 2 + 1, none⟩) hb).trans this.2⟩

theorem plan11_at (r : Ref) (ws : List (BitVec 32 × Bool)) (sl : Bool) (A : Act11) (w : World) (h : ChipAt w r ws sl) (hA : A.Ok) :
    Calls Try.prog 24 #[.pointer (some ⟨r.bc, 0, none⟩), .agg (actCells A).toArray] w fun e w' => ∃ (p : List (Nat × BitVec 32)) (pe : Nat) (a : Option Addr) (b n cap : Nat), Planned ws A (p, pe) ∧
      e = .returned (.tuple #[.slice a n cap, .int .i64 pe]) ∧ n ≤ 18 ∧ WritesAt w' w.heap.size a b n cap p ∧ Below w.heap.size w w' := by
  refine (plan11_live r ws sl A w h hA).mono ?_
  rintro e w' ⟨⟨p, pe⟩, hp, v, rfl, hown, hb⟩
  obtain ⟨a, b, cap, rfl, hw⟩ := WritesAt.of_own hown
  exact ⟨p, pe, a, b, p.length, cap, hp, rfl, (planned_facts ws A _ h.len hp).2.2.1, hw, hb⟩

/-- Some of them, from the first, are done. -/
theorem do_at (r : Ref) (ws : List (BitVec 32 × Bool)) (sl : Bool) (p : List (Nat × BitVec 32)) (a : Option Addr) (base b n m cap cap' : Nat) (w : World) (h : ChipAt w r ws sl) (hw : WritesAt w base a b n cap p) (hm : m ≤ n) (hn : n ≤ 18) (hbw : r.bw < base) (hd : (doAll ws (p.take m)).2 = 0) :
    Calls Try.prog 12 #[.pointer (some ⟨r.bc, 0, none⟩), .slice a m cap'] w fun e w' => e = .returned (.int .i64 0) ∧ ChipAt w' r (doAll ws (p.take m)).1 sl ∧ Kept (· = r.bw) w w' := by
  have hl := hw.len
  have hlt := hw.lt
  have hp := hw.ptr
  have htl : (p.take m).length = m := by rw [List.length_take, hl]; omega
  have := otp_do r ws sl (p.take m) b 0 cap' m w h htl (by omega) (by omega) (by omega) (fun i hi => by
    have := hw.cells i (by rw [htl] at hi; omega)
    simpa only [List.getElem_take] using this) a (hp.imp (fun h => by omega) id)
  rw [hd] at this
  exact this
end Go.Proofs.Ytoefaghakjcfcaa
