/- Plain law: when a set has no byte, one byte, or more, told by its runs; the lengths of forms. · Plain law: the lengths of forms; the reference's loop over kids, step by step. · Plain law: every letter of a form is a byte; what Show says. · Plain law: what the writer has written stays small; its loop over kids, step by step. · Plain law: what is said of the document's examples. -/
import Derived.Test.YtnkiiphliilegaaDoorS1
import Derived.Test.YtnkiiphliilegaaDoorSM
namespace Go.Proofs.YtnkiiphliilegaaDoor
section

theorem runStep_ne (acc : List (Nat × Nat)) (b : Nat) : runStep acc b ≠ [] := by
  rcases List.eq_nil_or_concat acc with rfl | ⟨init, ⟨lo, hi⟩, rfl⟩
  · rw [runStep_nil]; simp
  · rw [List.concat_eq_append]
    by_cases h : hi + 1 = b
    · rw [runStep_more _ _ _ _ h]; simp
    · rw [runStep_new _ _ _ _ h]; simp
theorem runsFold_le : ∀ (L : List Nat), ∀ r ∈ runsFold L, r.1 ≤ r.2 := fun L => by
  rcases List.eq_nil_or_concat L with rfl | ⟨init, b, rfl⟩
  · intro r hr; simp [runsFold] at hr
  · have : init.length < (init.concat b).length := by simp
    rw [List.concat_eq_append, runsFold_snoc]
    exact (runStep_inRuns _ b 0 (runsFold_le init)).2
termination_by L => L.length
theorem runsFold_nil_iff (L : List Nat) : runsFold L = [] ↔ L = [] := by
  constructor
  · intro h
    rcases List.eq_nil_or_concat L with rfl | ⟨init, b, rfl⟩
    · rfl
    · rw [List.concat_eq_append, runsFold_snoc] at h
      exact absurd h (runStep_ne _ _)
  · rintro rfl; rfl
theorem oneF_iff (L : List Nat) : oneF (runsFold L) = decide (L.length = 1) := by
  rcases List.eq_nil_or_concat L with rfl | ⟨init, b, rfl⟩
  · rfl
  · rw [List.concat_eq_append, runsFold_snoc]
    rcases List.eq_nil_or_concat (runsFold init) with h0 | ⟨pre, ⟨lo, hi⟩, h0⟩
    · have := (runsFold_nil_iff init).1 h0
      subst this
      rw [h0, runStep_nil]
      simp [oneF]
    · rw [List.concat_eq_append] at h0
      have hne : init ≠ [] := fun e => by rw [e] at h0; simp [runsFold] at h0
      have hlen : ¬ (init ++ [b]).length = 1 := by
        have : 0 < init.length := by cases init with | nil => exact absurd rfl hne | cons => simp
        simp
        exact hne
      have hle := runsFold_le init (lo, hi) (by rw [h0]; simp)
      simp only at hle
      rw [decide_eq_false hlen, h0]
      by_cases h : hi + 1 = b
      · rw [runStep_more _ _ _ _ h]
        cases pre with
        | nil => simp [oneF]; omega
        | cons x pre => cases pre <;> rfl
      · rw [runStep_new _ _ _ _ h]
        cases pre with
        | nil => rfl
        | cons x pre => cases pre <;> rfl
theorem runsFold_one (x : Nat) : runsFold [x] = [(x, x)] := rfl
theorem setF_nil : setF [] = [91, 98, 45, 97, 93] := rfl
theorem setF_one (L : List Nat) (x : Nat) (h : L = [x]) : setF (runsFold L) = byteF x := by
  subst h
  rw [runsFold_one]
  simp [setF, oneF]
theorem setF_more (L : List Nat) (h : 2 ≤ L.length) : setF (runsFold L) = 91 :: ((runsFold L).flatMap runF ++ [93]) := by
  unfold setF
  have h1 : ¬ runsFold L = [] := fun e => by rw [(runsFold_nil_iff L).1 e] at h; simp at h
  rw [if_neg h1, oneF_iff, decide_eq_false (by omega)]
  rfl
theorem byteF_len (b : Nat) : (byteF b).length ≤ 4 := by
  unfold byteF
  split <;> simp
theorem runF_len (r : Nat × Nat) : (runF r).length ≤ 9 := by
  unfold runF
  have h1 := byteF_len r.1
  have h2 := byteF_len r.2
  rw [List.length_append, List.length_append]
  have a : (if 1 < r.2 - r.1 then [45] else ([] : List Nat)).length ≤ 1 := by split <;> simp
  have b : (if r.1 < r.2 then byteF r.2 else ([] : List Nat)).length ≤ 4 := by split <;> simp [h2]
  omega
theorem runsF_len (R : List (Nat × Nat)) : (R.flatMap runF).length ≤ 9 * R.length := by
  induction R with
  | nil => simp
  | cons r R ih =>
    rw [List.flatMap_cons, List.length_append, List.length_cons]
    have := runF_len r
    omega
theorem runsF_step (R : List (Nat × Nat)) (k : Nat) (h : k < R.length) : (R.take (k + 1)).flatMap runF = (R.take k).flatMap runF ++ runF R[k] := by
  rw [List.take_succ_eq_append_getElem h, List.flatMap_append]
  simp
theorem runF_same (a b : Nat) (h : a = b) : runF (a, b) = byteF a := by
  unfold runF
  subst h
  simp
theorem runF_next (a b : Nat) (h : a + 1 = b) : runF (a, b) = byteF a ++ byteF b := by
  unfold runF
  subst h
  simp
theorem runF_far (a b : Nat) (h : a + 1 < b) : runF (a, b) = byteF a ++ ([45] ++ byteF b) := by
  unfold runF
  rw [if_pos (by show 1 < b - a; omega), if_pos (by show a < b; omega)]
theorem setF_len (R : List (Nat × Nat)) (h : R.length ≤ 256) : (setF R).length ≤ 2400 := by
  unfold setF
  have h1 := byteF_len (R.headD (0, 0)).1
  have h2 := runsF_len R
  split
  · simp
  · split
    · omega
    · rw [List.length_cons, List.length_append, List.length_cons, List.length_nil]
      omega
end

section

/-- the runs of a class -/
def RF (p : Nat → Bool) : List (Nat × Nat) := runsFold (bytesOf p 256)
theorem RF_len (p : Nat → Bool) : (RF p).length ≤ 256 := Nat.le_trans (runsFold_len _) (bytesOf_le p 256)
theorem numF_len (n : Nat) : (numF n).length ≤ n + 1 := by
  induction n using Nat.strongRecOn with
  | _ n ih =>
    rw [numF]
    split
    · simp
    · have := ih (n / 10) (by omega)
      simp
      omega
theorem rightT_node {op : Int} {p : Nat → Bool} {mn mx : Int} {ks : List Tm} (h : rightT (.node op p mn mx ks) = true) : rightN op p mn mx ks.length = true ∧ rightL ks = true := by
  unfold rightT at h
  simpa using h
theorem rightN_op {op : Int} {p : Nat → Bool} {mn mx : Int} {n : Nat} (h : rightN op p mn mx n = true) : 1 ≤ op ∧ op ≤ 8 ∧ (op = 8 → n = 1 ∧ 0 ≤ mn ∧ mn ≤ 200 ∧ mx ≤ 200 ∧ (mx = -1 ∨ mn ≤ mx)) := by
  unfold rightN at h
  simp only [Bool.and_eq_true, decide_eq_true_eq] at h
  obtain ⟨⟨⟨⟨h1, h2⟩, h3⟩, h4⟩, _⟩ := h
  refine ⟨h1, h2, fun h8 => ?_⟩
  subst h8
  simp at h3 h4
  omega
theorem rightL_at {ks : List Tm} (h : rightL ks = true) (i : Nat) (hi : i < ks.length) : rightT ks[i] = true := by
  rw [rightL_iff, List.all_eq_true] at h
  exact h _ (List.getElem_mem hi)
theorem leafF_len (op : Int) (p : Nat → Bool) : (leafF RF op p).length ≤ 2400 := by
  unfold leafF
  have := setF_len (RF p) (RF_len p)
  split
  · exact this
  split
  · simp
  split
  · simp
  split <;> simp
theorem tailF_len {op : Int} {p : Nat → Bool} {mn mx : Int} {n : Nat} (h : rightN op p mn mx n = true) : (tailF op mn mx).length ≤ 420 := by
  unfold tailF
  split
  · rename_i h8
    obtain ⟨_, h0, h1, h2, h3⟩ := (rightN_op h).2.2 h8
    have q1 := numF_len mn.toNat
    have q2 := numF_len mx.toNat
    have a1 : mn.toNat ≤ 200 := by omega
    have a2 : mx.toNat ≤ 200 := by omega
    unfold quantF
    split
    · simp
    split
    · simp
    split
    · simp
    split
    · simp; omega
    split
    · simp; omega
    · simp; omega
  · simp
theorem bar_len (op : Int) (f : Bool) : (bar op f).length ≤ 1 := by
  unfold bar
  split <;> simp
theorem br_len (b : Bool) (s : List Nat) : (br b s).length ≤ s.length + 2 := by
  unfold br
  split <;> simp
mutual
theorem rForm_len : ∀ t : Tm, rightT t = true → (rForm RF t).length + 500 ≤ 4000 * nodes t
  | .node op p mn mx ks, h => by
    obtain ⟨h1, h2⟩ := rightT_node h
    have ht := tailF_len h1
    have hl := leafF_len op p
    unfold rForm nodes
    split
    · omega
    · have := rKids_len op true ks [] h2
      rw [List.length_nil] at this
      rw [List.length_append]
      omega
theorem rKids_len (op : Int) (first : Bool) : ∀ (ks : List Tm) (s : List Nat), rightL ks = true → (rKids RF op first ks s).length ≤ s.length + 4000 * nodesL ks
  | [], s, _ => by unfold rKids; omega
  | k :: ks, s, h => by
    unfold rightL at h
    simp only [Bool.and_eq_true] at h
    have h1 := rForm_len k h.1
    have h2 := br_len (inBr op (opOf k)) (rForm RF k)
    have h3 := bar_len op first
    unfold rKids nodesL
    split
    · have := rKids_len op false ks (s ++ (bar op first ++ br (inBr op (opOf k)) (rForm RF k))) h.2
      rw [List.length_append, List.length_append] at this
      omega
    · omega
end
theorem rKids_stop (op : Int) (first : Bool) (ks : List Tm) (s : List Nat) (h : ¬ s.length < 1000) : rKids RF op first ks s = s := by
  cases ks with
  | nil => rfl
  | cons k ks => unfold rKids; rw [if_neg h]
theorem rKids_step (op : Int) (ks : List Tm) (s : List Nat) (i : Nat) (hi : i < ks.length) (h : s.length < 1000) :
    rKids RF op (decide (i = 0)) (ks.drop i) s = rKids RF op (decide (i + 1 = 0)) (ks.drop (i + 1)) (s ++ (bar op (decide (i = 0)) ++ br (inBr op (opOf ks[i])) (rForm RF ks[i]))) := by
  rw [List.drop_eq_getElem_cons hi]
  show (if s.length < 1000 then _ else _) = _
  rw [if_pos h]
  rfl
end

section

def Bytes8 (s : List Nat) : Prop := ∀ c ∈ s, c < 256
theorem Bytes8.app {s t : List Nat} (h : Bytes8 s) (k : Bytes8 t) : Bytes8 (s ++ t) := by
  intro c hc
  rcases List.mem_append.1 hc with hc | hc
  · exact h c hc
  · exact k c hc
theorem bytes8_nil : Bytes8 [] := fun c hc => by cases hc
theorem bytes8_one {c : Nat} (h : c < 256) : Bytes8 [c] := fun d hd => by simp at hd; omega
theorem bytes8_cons {c : Nat} {s : List Nat} (h : c < 256) (k : Bytes8 s) : Bytes8 (c :: s) := (bytes8_one h).app k
theorem hexd_lt (x : Nat) (h : x < 16) : hexd x < 256 := by
  unfold hexd
  split <;> omega
theorem byteF_lt (b : Nat) (h : b < 256) : Bytes8 (byteF b) := by
  unfold byteF
  split
  · exact bytes8_one h
  · exact bytes8_cons (by omega) (bytes8_cons (by omega) (bytes8_cons (hexd_lt _ (by omega)) (bytes8_one (hexd_lt _ (by omega)))))
theorem runF_lt (r : Nat × Nat) (h1 : r.1 < 256) (h2 : r.2 < 256) : Bytes8 (runF r) := by
  unfold runF
  refine (byteF_lt _ h1).app (Bytes8.app ?_ ?_)
  · split
    · exact bytes8_one (by omega)
    · exact bytes8_nil
  · split
    · exact byteF_lt _ h2
    · exact bytes8_nil
theorem setF_lt (R : List (Nat × Nat)) (h : ∀ r ∈ R, r.1 < 256 ∧ r.2 < 256) : Bytes8 (setF R) := by
  unfold setF
  split
  · exact bytes8_cons (by omega) (bytes8_cons (by omega) (bytes8_cons (by omega) (bytes8_cons (by omega) (bytes8_one (by omega)))))
  · rename_i hne
    split
    · cases R with
      | nil => exact absurd rfl hne
      | cons r R => exact byteF_lt _ (h r (by simp)).1
    · refine bytes8_cons (by omega) (Bytes8.app ?_ (bytes8_one (by omega)))
      intro c hc
      obtain ⟨r, hr, hcr⟩ := List.mem_flatMap.1 hc
      exact runF_lt r (h r hr).1 (h r hr).2 c hcr
theorem numF_lt (n : Nat) : Bytes8 (numF n) := by
  induction n using Nat.strongRecOn with
  | _ n ih =>
    rw [numF]
    split
    · exact bytes8_one (by omega)
    · exact (ih (n / 10) (by omega)).app (bytes8_one (by omega))
theorem quantF_lt (mn mx : Int) : Bytes8 (quantF mn mx) := by
  unfold quantF
  have h1 := numF_lt mn.toNat
  have h2 := numF_lt mx.toNat
  have e1 : Bytes8 [125] := bytes8_one (by omega)
  split
  · exact bytes8_one (by omega)
  split
  · exact bytes8_one (by omega)
  split
  · exact bytes8_one (by omega)
  split
  · exact bytes8_cons (by omega) (h1.app e1)
  split
  · exact bytes8_cons (by omega) (h1.app (bytes8_cons (by omega) e1))
  · exact bytes8_cons (by omega) (h1.app (bytes8_cons (by omega) (h2.app e1)))
theorem leafF_lt (op : Int) (p : Nat → Bool) : Bytes8 (leafF RF op p) := by
  unfold leafF
  split
  · exact setF_lt _ fun r hr => runsFold_lt _ (fun b hb => (bytesOf_mem.1 hb).1) r hr
  split
  · exact bytes8_one (by omega)
  split
  · exact bytes8_one (by omega)
  split
  · exact bytes8_one (by omega)
  · exact bytes8_nil
theorem tailF_lt (op mn mx : Int) : Bytes8 (tailF op mn mx) := by
  unfold tailF
  split
  · exact quantF_lt _ _
  · exact bytes8_nil
theorem bar_lt (op : Int) (f : Bool) : Bytes8 (bar op f) := by
  unfold bar
  split
  · exact bytes8_one (by omega)
  · exact bytes8_nil
theorem br_lt (b : Bool) (s : List Nat) (h : Bytes8 s) : Bytes8 (br b s) := by
  unfold br
  split
  · exact bytes8_cons (by omega) (h.app (bytes8_one (by omega)))
  · exact h
mutual
theorem rForm_lt : ∀ t : Tm, Bytes8 (rForm RF t)
  | .node op p mn mx ks => by
    unfold rForm
    split
    · exact leafF_lt op p
    · exact (rKids_lt op true ks [] bytes8_nil).app (tailF_lt op mn mx)
theorem rKids_lt (op : Int) (first : Bool) : ∀ (ks : List Tm) (s : List Nat), Bytes8 s → Bytes8 (rKids RF op first ks s)
  | [], s, h => by unfold rKids; exact h
  | k :: ks, s, h => by
    unfold rKids
    split
    · exact rKids_lt op false ks _ (h.app ((bar_lt op first).app (br_lt _ _ (rForm_lt k))))
    · exact h
end
/-- what Show says of a term: its form, and the number of what is wrong -/
def saysOf (t : Tm) : List Nat × Nat :=
  if rightT t = false then ([], 2) else if 200 < (rForm RF t).length then ([], 1) else if exceed 0 (rForm RF t) = true then ([], 52) else (rForm RF t, 0)
theorem saysOf_lt (t : Tm) : Bytes8 (saysOf t).1 := by
  unfold saysOf
  split
  · exact bytes8_nil
  split
  · exact bytes8_nil
  split
  · exact bytes8_nil
  · exact rForm_lt t
theorem exceed_step (d : Int) (s : List Nat) (i : Nat) (hi : i < s.length) : exceed d (s.drop i) = (let d' := if s[i] = 40 then d + 1 else if s[i] = 41 then d - 1 else d; if 30 < d' then true else exceed d' (s.drop (i + 1))) := by
  rw [List.drop_eq_getElem_cons hi]
  rfl
end

section

/-- what the writer does with one kid -/
def kidW (op : Int) (first : Bool) (k : Tm) (st : St) : St := if inBr op (opOf k) then (wTerm RF k (st.put (bar op first)).opn).close else wTerm RF k (st.put (bar op first))
theorem wKids_step (op : Int) (ks : List Tm) (st : St) (i : Nat) (hi : i < ks.length) :
    wKids RF op (decide (i = 0)) (ks.drop i) st = wKids RF op (decide (i + 1 = 0)) (ks.drop (i + 1)) (kidW op (decide (i = 0)) ks[i] st) := by
  rw [List.drop_eq_getElem_cons hi]
  rfl
mutual
theorem wTerm_bd : ∀ (t : Tm) (st : St), rightT t = true → (wTerm RF t st).s.length + 500 ≤ st.s.length + 4000 * nodes t ∧ (wTerm RF t st).d = st.d ∧ (wTerm RF t st).dd ≤ max st.dd (st.d + 2 * nodes t)
  | .node op p mn mx ks, st, h => by
    obtain ⟨h1, h2⟩ := rightT_node h
    have ht := tailF_len h1
    have hl := leafF_len op p
    unfold wTerm nodes
    split
    · refine ⟨by omega, rfl, by omega⟩
    · split
      · refine ⟨by simp [St.put]; omega, rfl, by simp [St.put]; omega⟩
      · obtain ⟨k1, k2, k3⟩ := wKids_bd op true ks st h2
        refine ⟨by simp only [St.put, List.length_append]; omega, by simp only [St.put]; exact k2, by simp only [St.put]; omega⟩
theorem wKids_bd (op : Int) (first : Bool) : ∀ (ks : List Tm) (st : St), rightL ks = true → (wKids RF op first ks st).s.length ≤ st.s.length + 4000 * nodesL ks ∧ (wKids RF op first ks st).d = st.d ∧ (wKids RF op first ks st).dd ≤ max st.dd (st.d + 1 + 2 * nodesL ks)
  | [], st, _ => by unfold wKids; exact ⟨by omega, rfl, by omega⟩
  | k :: ks, st, h => by
    unfold rightL at h
    simp only [Bool.and_eq_true] at h
    have hb := bar_len op first
    unfold wKids nodesL
    cases hi : inBr op (opOf k) with
    | true =>
      simp only [if_true]
      obtain ⟨a1, a2, a3⟩ := wTerm_bd k (st.put (bar op first)).opn h.1
      obtain ⟨b1, b2, b3⟩ := wKids_bd op false ks (wTerm RF k (st.put (bar op first)).opn).close h.2
      simp only [St.put, St.opn, St.close, List.length_append, List.length_cons, List.length_nil] at a1 a2 a3 b1 b2 b3 ⊢
      refine ⟨by omega, by omega, by omega⟩
    | false =>
      simp only [Bool.false_eq_true, if_false]
      obtain ⟨a1, a2, a3⟩ := wTerm_bd k (st.put (bar op first)) h.1
      obtain ⟨b1, b2, b3⟩ := wKids_bd op false ks (wTerm RF k (st.put (bar op first))) h.2
      simp only [St.put, List.length_append] at a1 a2 a3 b1 b2 b3 ⊢
      refine ⟨by omega, by omega, by omega⟩
end
theorem kidW_bd (op : Int) (first : Bool) (k : Tm) (st : St) (h : rightT k = true) : (kidW op first k st).s.length ≤ st.s.length + 4000 * nodes k ∧ (kidW op first k st).d = st.d ∧ (kidW op first k st).dd ≤ max st.dd (st.d + 1 + 2 * nodes k) := by
  have hb := bar_len op first
  unfold kidW
  cases hi : inBr op (opOf k) with
  | true =>
    simp only [if_true]
    obtain ⟨a1, a2, a3⟩ := wTerm_bd k (st.put (bar op first)).opn h
    simp only [St.put, St.opn, St.close, List.length_append, List.length_cons, List.length_nil] at a1 a2 a3 ⊢
    refine ⟨by omega, by omega, by omega⟩
  | false =>
    simp only [Bool.false_eq_true, if_false]
    obtain ⟨a1, a2, a3⟩ := wTerm_bd k (st.put (bar op first)) h
    simp only [St.put, List.length_append] at a1 a2 a3 ⊢
    refine ⟨by omega, by omega, by omega⟩
theorem inBr_six (k : Int) : inBr 6 k = [1, 6, 7].contains k := by
  rw [Bool.eq_iff_iff]
  simp [inBr]
  omega
theorem inBr_seven (k : Int) : inBr 7 k = [7].contains k := by
  rw [Bool.eq_iff_iff]
  simp [inBr]
theorem inBr_eight (k : Int) : inBr 8 k = [1, 6, 7, 8].contains k := by
  rw [Bool.eq_iff_iff]
  simp [inBr]
  omega
/-- the place of a number in a list; -1: it isn't there -/
def idxI : List Int → Int → Nat → Int
  | [], _, _ => -1
  | x :: L, k, i => if k = x then (i : Int) else idxI L k (i + 1)
theorem idxI_iff : ∀ (L : List Int) (k : Int) (i : Nat), decide (0 ≤ idxI L k i) = L.contains k
  | [], k, i => rfl
  | x :: L, k, i => by
    unfold idxI
    by_cases h : k = x
    · rw [if_pos h]; simp [h]
    · rw [if_neg h, idxI_iff L k (i + 1)]
      simp [h]
theorem idxI_yes (L : List Int) (k : Int) (i : Nat) (hi : i < L.length) (h : k = L[i]) : idxI (L.drop i) k i = (i : Int) := by
  rw [List.drop_eq_getElem_cons hi]
  show (if k = L[i] then _ else _) = _
  rw [if_pos h]
theorem idxI_no (L : List Int) (k : Int) (i : Nat) (hi : i < L.length) (h : ¬ k = L[i]) : idxI (L.drop i) k i = idxI (L.drop (i + 1)) k (i + 1) := by
  rw [List.drop_eq_getElem_cons hi]
  show (if k = L[i] then _ else _) = _
  rw [if_neg h]
end

section

abbrev zeroP : Nat → Bool := fun _ => false
theorem runs_a : RF (setOf [97]) = [(97, 97)] := by decide +kernel
theorem runs_b : RF (setOf [97, 98, 99, 120]) = [(97, 99), (120, 120)] := by decide +kernel
theorem runs_c : RF (setOf [124]) = [(124, 124)] := by decide +kernel
theorem right_set (L : List Nat) : rightT (.node 2 (setOf L) 0 0 []) = true := by
  simp [rightT, rightL, rightN]
theorem none_zero : noneF zeroP = true := by decide +kernel
theorem says_a : saysOf (.node 2 (setOf [97]) 0 0 []) = ([97], 0) := by
  have hf : rForm RF (.node 2 (setOf [97]) 0 0 []) = [97] := by
    simp [rForm, leafF, runs_a, setF, oneF, byteF, isAl]
  unfold saysOf
  rw [right_set, hf]
  rfl
theorem says_b : saysOf (.node 2 (setOf [97, 98, 99, 120]) 0 0 []) = ([91, 97, 45, 99, 120, 93], 0) := by
  have hf : rForm RF (.node 2 (setOf [97, 98, 99, 120]) 0 0 []) = [91, 97, 45, 99, 120, 93] := by
    simp [rForm, leafF, runs_b, setF, oneF, runF, byteF, isAl]
  unfold saysOf
  rw [right_set, hf]
  rfl
theorem says_c : saysOf (.node 2 (setOf [124]) 0 0 []) = ([92, 120, 55, 99], 0) := by
  have hf : rForm RF (.node 2 (setOf [124]) 0 0 []) = [92, 120, 55, 99] := by
    simp [rForm, leafF, runs_c, setF, oneF, byteF, isAl, hexd]
  unfold saysOf
  rw [right_set, hf]
  rfl
def catT : Tm := .node 6 zeroP 0 0 [.node 2 (setOf [97]) 0 0 [], .node 1 zeroP 0 0 []]
theorem says_rep : saysOf (.node 8 zeroP 2 2 [catT]) = ([40, 97, 40, 41, 41, 123, 50, 125], 0) := by
  have hr : rightT (.node 8 zeroP 2 2 [catT]) = true := by
    simp [catT, rightT, rightL, rightN, none_zero]
  have hf : rForm RF (.node 8 zeroP 2 2 [catT]) = [40, 97, 40, 41, 41, 123, 50, 125] := by
    simp [catT, rForm, rKids, leafF, runs_a, setF, oneF, byteF, isAl, inBr, opOf, br, bar, tailF, quantF, numF]
  unfold saysOf
  rw [hr, hf]
  rfl
theorem nodes_rep : nodesL [catT] ≤ 500 := by
  simp [catT, nodesL, nodes]
end
end Go.Proofs.YtnkiiphliilegaaDoor
