/- Contracts of the functions and their models, by the abstract machine. -/
import Derived.Test.YtbeafnkcimfeeaaGreatDoorPfMod2
/- Models (3): which cases are few. -/
namespace Go.Proofs.YtbeafnkcimfeeaaGreatDoor.AM.TT
set_option linter.unusedVariables false
set_option linter.unusedSimpArgs false
def m3 (s : Str) : Int := if (3001 : Int) < s.length then 3001 else s.length
theorem m3_le (s : Str) : 0 ≤ m3 s ∧ m3 s ≤ 3001 := by unfold m3; split <;> omega
def rB (rows : List Row) : Nat → Int
  | 0 => 0
  | k + 1 => rB rows k + (m3 (rows.getD k default).key + m3 (rows.getD k default).val)
theorem rB_le (rows : List Row) : ∀ k : Nat, 0 ≤ rB rows k ∧ rB rows k ≤ 6002 * k
  | 0 => by simp [rB]
  | k + 1 => by
    have := rB_le rows k
    have h1 := m3_le (rows.getD k default).key
    have h2 := m3_le (rows.getD k default).val
    unfold rB
    omega
def rN (r : Rec) : Nat := min r.rows.length 101
def nU (l : List Rec) : Nat → Nat
  | 0 => 0
  | i + 1 => nU l i + rN (l.getD i default)
theorem nU_le (l : List Rec) : ∀ i : Nat, nU l i ≤ 101 * i
  | 0 => by simp [nU]
  | i + 1 => by
    have := nU_le l i
    unfold nU rN
    omega
def bH (r : Rec) : Int := m3 r.key + m3 r.val + m3 r.low + m3 r.high
def bU (l : List Rec) : Nat → Int
  | 0 => 0
  | i + 1 => bU l i + bH (l.getD i default) + rB (l.getD i default).rows (rN (l.getD i default))
theorem bH_le (r : Rec) : 0 ≤ bH r ∧ bH r ≤ 12004 := by
  have h1 := m3_le r.key
  have h2 := m3_le r.val
  have h3 := m3_le r.low
  have h4 := m3_le r.high
  unfold bH
  omega
theorem bU_le (l : List Rec) : ∀ i : Nat, 0 ≤ bU l i ∧ bU l i ≤ 700000 * i
  | 0 => by simp [bU]
  | i + 1 => by
    have := bU_le l i
    have h1 := bH_le (l.getD i default)
    have h2 := rB_le (l.getD i default).rows (rN (l.getD i default))
    have h3 : rN (l.getD i default) ≤ 101 := by unfold rN; omega
    unfold bU
    omega
def fewM (l : List Rec) : Bool := decide (l.length ≤ 40) && decide (nU l (min l.length 41) ≤ 100) && decide (bU l (min l.length 41) ≤ 3000)
theorem nU_sz (l : List Rec) : ∀ i : Nat, i ≤ l.length → nU l i ≤ 100 → szL l i ≤ nU l i + i
  | 0, _, _ => by simp [szL]
  | i + 1, hi, h => by
    have hx : l[i]? = some (l.getD i default) := by simp [List.getD, List.getElem?_eq_getElem (show i < l.length by omega)]
    unfold nU at h ⊢
    have := nU_sz l i (by omega) (by omega)
    rw [szL_succ hx]
    unfold rN at h ⊢
    omega
theorem fewM_sz {l : List Rec} (h : fewM l = true) : szL l l.length ≤ 140 := by
  simp only [fewM, Bool.and_eq_true, decide_eq_true_eq] at h
  have e : min l.length 41 = l.length := by omega
  rw [e] at h
  have := nU_sz l l.length (Nat.le_refl _) h.1.2
  omega
def rB8 (ents : List Entry) : Nat → Int
  | 0 => 0
  | k + 1 => rB8 ents k + m3 (ents.getD k default).key
theorem rB8_le (ents : List Entry) : ∀ k : Nat, 0 ≤ rB8 ents k ∧ rB8 ents k ≤ 3001 * k
  | 0 => by simp [rB8]
  | k + 1 => by
    have := rB8_le ents k
    have h1 := m3_le (ents.getD k default).key
    unfold rB8
    omega
def rN8 (r : Rec) : Nat := min r.ents.length 101
def nU8 (l : List Rec) : Nat → Nat
  | 0 => 0
  | i + 1 => nU8 l i + rN8 (l.getD i default)
theorem nU8_le (l : List Rec) : ∀ i : Nat, nU8 l i ≤ 101 * i
  | 0 => by simp [nU8]
  | i + 1 => by
    have := nU8_le l i
    unfold nU8 rN8
    omega
def bH8 (r : Rec) : Int := m3 r.key + m3 r.low + m3 r.high + m3 r.hold.key
def bU8 (l : List Rec) : Nat → Int
  | 0 => 0
  | i + 1 => bU8 l i + bH8 (l.getD i default) + rB8 (l.getD i default).ents (rN8 (l.getD i default))
theorem bH8_le (r : Rec) : 0 ≤ bH8 r ∧ bH8 r ≤ 12004 := by
  have h1 := m3_le r.key
  have h2 := m3_le r.low
  have h3 := m3_le r.high
  have h4 := m3_le r.hold.key
  unfold bH8
  omega
theorem bU8_le (l : List Rec) : ∀ i : Nat, 0 ≤ bU8 l i ∧ bU8 l i ≤ 700000 * i
  | 0 => by simp [bU8]
  | i + 1 => by
    have := bU8_le l i
    have h1 := bH8_le (l.getD i default)
    have h2 := rB8_le (l.getD i default).ents (rN8 (l.getD i default))
    have h3 : rN8 (l.getD i default) ≤ 101 := by unfold rN8; omega
    unfold bU8
    omega
def fewM8 (l : List Rec) : Bool := decide (l.length ≤ 40) && decide (nU8 l (min l.length 41) ≤ 100) && decide (bU8 l (min l.length 41) ≤ 3000)
theorem nU8_sz (l : List Rec) : ∀ i : Nat, i ≤ l.length → nU8 l i ≤ 100 → szI l i ≤ nU8 l i + i
  | 0, _, _ => by simp [szI]
  | i + 1, hi, h => by
    have hx : l[i]? = some (l.getD i default) := by simp [List.getD, List.getElem?_eq_getElem (show i < l.length by omega)]
    unfold nU8 at h ⊢
    have := nU8_sz l i (by omega) (by omega)
    rw [szI_succ hx]
    unfold rN8 at h ⊢
    omega
theorem fewM8_sz {l : List Rec} (h : fewM8 l = true) : szI l l.length ≤ 140 := by
  simp only [fewM8, Bool.and_eq_true, decide_eq_true_eq] at h
  have e : min l.length 41 = l.length := by omega
  rw [e] at h
  have := nU8_sz l l.length (Nat.le_refl _) h.1.2
  omega
end Go.Proofs.YtbeafnkcimfeeaaGreatDoor.AM.TT
