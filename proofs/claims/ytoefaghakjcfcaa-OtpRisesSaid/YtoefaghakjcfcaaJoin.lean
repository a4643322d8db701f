/- The walk of the reference's Join. -/
import Derived.Test.YtoefaghakjcfcaaNil
import Derived.Laws.AppendOwnNone
namespace Go.Proofs.Ytoefaghakjcfcaa
open Go.RowKit

/-- A slice of bytes: where it lies, what it holds. -/
structure Piece where
  a : Option Addr
  b : Nat
  o : Nat
  n : Nat
  cap : Nat
  l : List (BitVec 8)
structure Piece.At (w : World) (p : Piece) : Prop where
  len : p.l.length = p.n
  at_ : p.n = 0 ∨ (p.a = some ⟨p.b, p.o, none⟩ ∧ p.b < w.heap.size)
  row : U8At w p.b p.o p.l
  nil : p.a = none → p.cap = 0
def Piece.val (p : Piece) : Value := .slice p.a p.n p.cap
theorem Piece.At.below {w w' : World} {p : Piece} (h : p.At w) (k : Below w.heap.size w w') : p.At w' := by
  refine ⟨h.len, ?_, ?_, h.nil⟩
  · rcases h.at_ with h | ⟨h, h'⟩
    · exact .inl h
    · exact .inr ⟨h, Nat.lt_of_lt_of_le h' k.size⟩
  · rcases h.at_ with h2 | ⟨h2, h'⟩
    · intro i hi; have := h.len; omega
    · exact h.row.below k h'

def joined (ps : List Piece) : List (BitVec 8) := ps.flatMap fun p => p.l
theorem joined_take (ps : List Piece) (k : Nat) (h : k < ps.length) : joined (ps.take (k + 1)) = joined (ps.take k) ++ ps[k].l := by
  rw [List.take_add_one, List.getElem?_eq_getElem h, joined, List.flatMap_append]
  simp [joined]
theorem joined_le (ps : List Piece) (k : Nat) : (joined (ps.take k)).length ≤ (joined ps).length := by
  have : joined ps = joined (ps.take k) ++ joined (ps.drop k) := by rw [joined, joined, joined, ← List.flatMap_append, List.take_append_drop]
  rw [this, List.length_append]; omega

set_option maxRecDepth 100000 in
set_option maxHeartbeats 2000000 in
theorem r1_join (a : Option Addr) (b o m cap : Nat) (ps : List Piece) (w : World) (hm : ps.length = m) (hm2 : m ≤ 1000000) (hb : m = 0 ∨ (a = some ⟨b, o, none⟩ ∧ b < w.heap.size)) (hc : ∀ i (h : i < ps.length), w.cell? ⟨b, o + i, none⟩ = some ps[i].val)
    (hp : ∀ i (h : i < ps.length), ps[i].At w) (hl : (joined ps).length ≤ 1000000000) :
    Calls Try.prog 35 #[.slice a m cap] w fun e w' => ∃ v, e = .returned v ∧ w'.ownsRow w.heap.size 5 1 v (joined ps).length (u8s (joined ps)) ∧ Below w.heap.size w w' := by
  obtain ⟨i0, hi, hz0, hz1, hz2⟩ := info_parts Try.infoU8'
  have HI := Lib.hid hi; have HZ0 := Lib.hid hz0; have HZ1 := Lib.hid hz1; have HZ2 := Lib.hid hz2
  have HM := Lib.hid hm; have HB := Lib.hid hb; have HC := Lib.hid hc; have HP := Lib.hid hp; have HL := Lib.hid hl
  clear hm hb hc hp hl hi hz0 hz1 hz2
  go_enter Try.func35, Try.ntmps35
  go_wp2_with fail
  go_loopw [3, 8] (fun v i wr => ∃ k : Nat, k ≤ m ∧ i = .int .i64 k ∧ wr.ownsRow w.heap.size 5 1 v (joined (ps.take k)).length (u8s (joined (ps.take k))) ∧ Below w.heap.size w wr) (fun _ i _ => m - (intOf i).toNat)
  case atStart => exact ⟨0, by omega, rfl, World.ownsRow_nil _ _ _ _, Below.refl _ _⟩
  case round =>
    obtain ⟨k, hk, rfl, hown, hB⟩ := hrel
    have hsB := hB.size
    by_cases hlt : k < m
    · obtain ⟨rfl, hbl⟩ := HB.out.resolve_left (by omega)
      have hkm : k < ps.length := by rw [HM.out]; exact hlt
      have hck := (hB.cell (p := ⟨b, o + k, none⟩) hbl).trans (HC.out k hkm)
      have hpk := (HP.out k hkm).below hB
      have hj := joined_take ps k hkm
      have hle := joined_le ps k
      have hle1 := joined_le ps (k + 1)
      obtain ⟨p, hpe⟩ : ∃ p, ps[k]'hkm = p := ⟨_, rfl⟩
      rw [hpe] at hck hpk hj
      obtain ⟨pa, pb, po, pn, pc, pl⟩ := p
      obtain ⟨plen, pat, prow, pnil⟩ := hpk
      simp only [Piece.val] at hck plen pat prow hj pnil
      have hjl := congrArg List.length hj
      rw [List.length_append, plen] at hjl
      have HJ := Lib.hid hj; have HJL := Lib.hid hjl; have HPL := Lib.hid plen; have HROW := Lib.hid prow; have HLE := Lib.hid hle; have HLE1 := Lib.hid hle1
      have hq : pn ≤ 1000000000 := by have := HL.out; omega
      have hq2 : (joined (ps.take k)).length ≤ 1000000000 := by have := HL.out; omega
      clear hpe hj hjl plen prow hle hle1
      generalize hJ : joined (ps.take k) = J at *
      have HJJ := Lib.hid hJ; clear hJ
      cases pa with
      | none =>
        have hpn : pn = 0 := by rcases pat with h | ⟨h, _⟩; · exact h
                                · exact absurd h (by simp)
        subst hpn
        obtain rfl := pnil rfl
        have hpl : pl = [] := List.eq_nil_of_length_eq_zero HPL.out
        go_wp2_with (at_builtin; refine wpList_append_own_none rfl _ _ 22 rfl w.heap.size 5 i0 1 Try.underlying22 HI.out _ J.length _ rfl hown rfl ?_)
        have HO5 := Lib.hid hown
        clear hown
        go_wp2
        go_roundw
        case rel => exact ⟨k + 1, by omega, by go_num, by rw [HJL.out, HJ.out, hpl, List.append_nil]; exact HO5.out, hB⟩
        case measure => simp [intOf]; omega
      | some ad =>
        go_wp2_with (at_builtin; refine wpList_append_own _ rfl _ _ 22 rfl w.heap.size 5 i0 (.int .u8 0) 1 1 Try.underlying22 HI.out HZ0.out HZ1.out HZ2.out rfl (by decide) _ J.length _ rfl hown ad pn pc (u8s pl) rfl (by rw [u8s_length, HPL.out]; omega) ?c2 (u8s_one _) ?c3 ?c4 hsB ?_)
        case c2 =>
          intro j u hu
          rcases pat with h | ⟨h, _⟩
          · have := (List.getElem?_eq_some_iff.1 hu).1
            rw [u8s_length, HPL.out, h] at this; omega
          · obtain rfl := Option.some.inj h
            rw [addr_add]; exact HROW.out.get j u hu
        case c3 => unfold maxLen; omega
        case c4 => omega
        intro v' w5 hown5 hgrow _
        have hb5 : Below w.heap.size w w5 := hB.grown hgrow hsB (fun j hj => (hown.lt j hj).1)
        have HO5 := Lib.hid hown5
        clear hgrow hown hown5
        go_wp2
        go_roundw
        case rel => exact ⟨k + 1, by omega, by go_num, by rw [HJL.out, HJ.out, u8s_append]; exact HO5.out, hb5⟩
        case measure => simp [intOf]; omega
    · have hkm : k = m := by omega
      subst hkm
      rw [List.take_of_length_le (by rw [HM.out]; exact Nat.le_refl _)] at hown
      have HO := Lib.hid hown; clear hown
      go_wp2
      go_ret
      exact ⟨_, rfl, HO.out, hB⟩
end Go.Proofs.Ytoefaghakjcfcaa
