/- Plain terms: right ones, and great ones; no program in sight. -/
import Derived.Test.YtnkiiphliilegaaDoorS0
namespace Go.Proofs.YtnkiiphliilegaaDoor

/-- no byte is of the set -/
def noneF (p : Nat → Bool) : Bool := (List.range 256).all fun b => !p b
/-- a term's own number of kids, numbers and set are right -/
def rightN (op : Int) (p : Nat → Bool) (mn mx : Int) (n : Nat) : Bool :=
  decide (1 ≤ op) && decide (op ≤ 8) && (if op = 6 ∨ op = 7 then decide (2 ≤ n) else if op = 8 then decide (n = 1) else decide (n = 0)) &&
    (if op = 8 then decide (0 ≤ mn) && decide (mn ≤ 200) && decide (mx ≤ 200) && (decide (mx = -1) || decide (mn ≤ mx)) else decide (mn = 0) && decide (mx = 0)) && (decide (op = 2) || noneF p)
mutual
def rightT : Tm → Bool
  | .node op p mn mx ks => rightN op p mn mx ks.length && rightL ks
def rightL : List Tm → Bool
  | [] => true
  | k :: ks => rightT k && rightL ks
end
/- the law's measure of a term, with its stops -/
mutual
def sizeT : Tm → Nat → Nat
  | .node _ _ _ _ ks, dp => if 60 < dp then 1000000 else sizeL ks (dp + 1) 1
def sizeL : List Tm → Nat → Nat → Nat
  | [], _, n => n
  | k :: ks, dp, n => if n ≤ 500 then sizeL ks dp (n + sizeT k dp) else n
end
theorem sizeL_le : ∀ (ks : List Tm) (dp n : Nat), n ≤ sizeL ks dp n
  | [], _, _ => Nat.le_refl _
  | k :: ks, dp, n => by
    unfold sizeL
    split
    · have := sizeL_le ks dp (n + sizeT k dp)
      omega
    · exact Nat.le_refl _
/-- a term that isn't great has no kid that is, measured from its place -/
theorem sizeL_kid : ∀ (ks : List Tm) (dp n : Nat), sizeL ks dp n ≤ 500 → ∀ k ∈ ks, sizeT k dp ≤ 500
  | [], _, _, _, _, h => by cases h
  | k :: ks, dp, n, hs, x, hx => by
    unfold sizeL at hs
    split at hs
    · have h1 := sizeL_le ks dp (n + sizeT k dp)
      rcases List.mem_cons.1 hx with rfl | hx
      · omega
      · exact sizeL_kid ks dp _ hs x hx
    · omega
theorem size_kid {op : Int} {p : Nat → Bool} {mn mx : Int} {ks : List Tm} {dp : Nat} (h : sizeT (.node op p mn mx ks) dp ≤ 500) : dp ≤ 60 ∧ ∀ k ∈ ks, sizeT k (dp + 1) ≤ 500 := by
  unfold sizeT at h
  split at h
  · omega
  · exact ⟨by omega, sizeL_kid ks _ _ h⟩
/- how many nodes a term has -/
mutual
def nodes : Tm → Nat
  | .node _ _ _ _ ks => 1 + nodesL ks
def nodesL : List Tm → Nat
  | [] => 0
  | k :: ks => nodes k + nodesL ks
end
theorem nodes_pos (t : Tm) : 1 ≤ nodes t := by
  cases t
  unfold nodes
  omega
theorem nodesL_len : ∀ ks : List Tm, ks.length ≤ nodesL ks
  | [] => Nat.le_refl _
  | k :: ks => by
    have h1 := nodes_pos k
    have h2 := nodesL_len ks
    unfold nodesL
    rw [List.length_cons]
    omega
theorem nodesL_mem : ∀ (ks : List Tm), ∀ k ∈ ks, nodes k ≤ nodesL ks
  | [], _, h => by cases h
  | k :: ks, x, h => by
    unfold nodesL
    rcases List.mem_cons.1 h with rfl | h
    · omega
    · have := nodesL_mem ks x h
      omega
theorem nodesL_at (ks : List Tm) (i : Nat) (h : i < ks.length) : nodes ks[i] ≤ nodesL ks := nodesL_mem ks _ (List.getElem_mem h)
theorem nodesL_drop (ks : List Tm) (i : Nat) (h : i < ks.length) : nodesL (ks.drop i) = nodes ks[i] + nodesL (ks.drop (i + 1)) := by
  rw [List.drop_eq_getElem_cons h]
  rfl
mutual
theorem size_nodes : ∀ (t : Tm) (dp : Nat), sizeT t dp ≤ 500 → sizeT t dp = nodes t
  | .node _ _ _ _ ks, dp, h => by
    unfold sizeT nodes at *
    split at h
    · omega
    · rename_i h60
      rw [if_neg h60]
      exact sizeL_nodes ks _ _ h
theorem sizeL_nodes : ∀ (ks : List Tm) (dp n : Nat), sizeL ks dp n ≤ 500 → sizeL ks dp n = n + nodesL ks
  | [], dp, n, _ => rfl
  | k :: ks, dp, n, h => by
    unfold sizeL nodesL at *
    split at h
    · rename_i hn
      rw [if_pos hn]
      have h1 := sizeL_le ks dp (n + sizeT k dp)
      have h2 := size_nodes k dp (by omega)
      rw [sizeL_nodes ks dp _ h, h2]
      omega
    · omega
end
/- no measure is beyond any counter -/
mutual
theorem sizeT_le : ∀ (t : Tm) (dp : Nat), dp ≤ 61 → sizeT t dp ≤ 1000000 + 501 * (62 - dp)
  | .node _ _ _ _ ks, dp, h => by
    unfold sizeT
    split
    · omega
    · have := sizeL_bd ks (dp + 1) 1 (by omega)
      omega
theorem sizeL_bd : ∀ (ks : List Tm) (dp n : Nat), dp ≤ 61 → sizeL ks dp n ≤ max n (500 + (1000000 + 501 * (62 - dp)))
  | [], dp, n, _ => by unfold sizeL; omega
  | k :: ks, dp, n, h => by
    unfold sizeL
    split
    · have h1 := sizeT_le k dp h
      have h2 := sizeL_bd ks dp (n + sizeT k dp) h
      omega
    · omega
end
theorem rightL_iff : ∀ ks : List Tm, rightL ks = ks.all rightT
  | [] => rfl
  | k :: ks => by
    unfold rightL
    rw [rightL_iff ks]
    rfl
end Go.Proofs.YtnkiiphliilegaaDoor
