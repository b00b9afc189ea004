/- Plain law of ShowWrites: terms and their forms, the writer with its stop, the reference's form with its stop, the brackets; no program in sight. -/
import Derived.Below
namespace Go.Proofs.YtnkiiphliilegaaDoor

/-- a term -/
inductive Tm where
  | node (op : Int) (p : Nat → Bool) (least most : Int) (kids : List Tm)
def opOf : Tm → Int | .node op _ _ _ _ => op

def isAl (b : Nat) : Bool := (decide (48 ≤ b) && decide (b ≤ 57)) || (decide (97 ≤ b) && decide (b ≤ 122)) || (decide (65 ≤ b) && decide (b ≤ 90))
def hexd (x : Nat) : Nat := if x < 10 then 48 + x else 87 + x
def byteF (b : Nat) : List Nat := if isAl b then [b] else [92, 120, hexd (b / 16), hexd (b % 16)]
def runF (r : Nat × Nat) : List Nat := byteF r.1 ++ ((if 1 < r.2 - r.1 then [45] else []) ++ (if r.1 < r.2 then byteF r.2 else []))
def oneF : List (Nat × Nat) → Bool | [(a, b)] => a == b | _ => false
def setF (R : List (Nat × Nat)) : List Nat := if R = [] then [91, 98, 45, 97, 93] else if oneF R then byteF (R.headD (0, 0)).1 else 91 :: (R.flatMap runF ++ [93])
def numF (n : Nat) : List Nat := if n < 10 then [48 + n] else numF (n / 10) ++ [48 + n % 10]
def quantF (mn mx : Int) : List Nat :=
  if mn = 0 ∧ mx = -1 then [42] else if mn = 1 ∧ mx = -1 then [43] else if mn = 0 ∧ mx = 1 then [63]
  else if mx = mn then 123 :: (numF mn.toNat ++ [125]) else if mx = -1 then 123 :: (numF mn.toNat ++ [44, 125])
  else 123 :: (numF mn.toNat ++ 44 :: (numF mx.toNat ++ [125]))
/-- is a kid of this kind written in brackets? -/
def inBr (op k : Int) : Bool := k == 7 || (k == 6 && op != 7) || (k == 1 && op != 7) || (k == 8 && op == 8)
def br (b : Bool) (s : List Nat) : List Nat := if b then 40 :: (s ++ [41]) else s
def bar (op : Int) (first : Bool) : List Nat := if op = 7 ∧ first = false then [124] else []
/-- the form of a term without kids -/
def leafF (runs : (Nat → Bool) → List (Nat × Nat)) (op : Int) (p : Nat → Bool) : List Nat := if op = 2 then setF (runs p) else if op = 3 then [46] else if op = 4 then [94] else if op = 5 then [36] else []
def tailF (op : Int) (mn mx : Int) : List Nat := if op = 8 then quantF mn mx else []

section
variable (runs : (Nat → Bool) → List (Nat × Nat))
mutual
def form : Tm → List Nat
  | .node op p mn mx ks => if op < 6 then leafF runs op p else formL op true ks ++ tailF op mn mx
def formL (op : Int) (first : Bool) : List Tm → List Nat
  | [] => []
  | k :: ks => (bar op first ++ br (inBr op (opOf k)) (form k)) ++ formL op false ks
end
mutual
def deepT : Tm → Nat
  | .node op _ _ _ ks => if op < 6 then 0 else deepL op ks
def deepL (op : Int) : List Tm → Nat
  | [] => 0
  | k :: ks => max (deepT k + (if inBr op (opOf k) then 1 else 0)) (deepL op ks)
end

/-- the writer -/
structure St where
  s : List Nat
  d : Nat
  dd : Nat
def St.put (st : St) (f : List Nat) : St := ⟨st.s ++ f, st.d, st.dd⟩
def St.opn (st : St) : St := ⟨st.s ++ [40], st.d + 1, max st.dd (st.d + 1)⟩
def St.close (st : St) : St := ⟨st.s ++ [41], st.d - 1, st.dd⟩
mutual
def wTerm : Tm → St → St
  | .node op p mn mx ks, st => if 200 < st.s.length then st else if op < 6 then st.put (leafF runs op p) else (wKids op true ks st).put (tailF op mn mx)
def wKids (op : Int) (first : Bool) : List Tm → St → St
  | [], st => st
  | k :: ks, st => wKids op false ks (if inBr op (opOf k) then (wTerm k (st.put (bar op first)).opn).close else wTerm k (st.put (bar op first)))
end
/-- what the writer did with a form -/
def Wrote (st : St) (f : List Nat) (dp : Nat) (r : St) : Prop :=
  r.d = st.d ∧ st.s.length ≤ r.s.length ∧ st.dd ≤ r.dd ∧ (st.d ≤ st.dd → st.s.length + f.length ≤ 200 → r.s = st.s ++ f ∧ r.dd = max st.dd (st.d + dp)) ∧ (200 < st.s.length + f.length → st.d ≤ st.dd → 200 < r.s.length)
theorem Wrote.put (st : St) (f : List Nat) : Wrote st f 0 (st.put f) :=
  ⟨rfl, by simp [St.put], Nat.le_refl _, fun h _ => ⟨rfl, by simp [St.put]; omega⟩, fun h _ => by simp [St.put]; omega⟩
theorem Wrote.trans {st r r2 : St} {f g : List Nat} {dp dq : Nat} (h : Wrote st f dp r) (k : Wrote r g dq r2) : Wrote st (f ++ g) (max dp dq) r2 := by
  obtain ⟨h1, h2, h3, h4, h5⟩ := h
  obtain ⟨k1, k2, k3, k4, k5⟩ := k
  refine ⟨by omega, by omega, by omega, fun hd hl => ?_, fun hl hd => ?_⟩
  · rw [List.length_append] at hl
    obtain ⟨e1, e2⟩ := h4 hd (by omega)
    obtain ⟨e3, e4⟩ := k4 (by omega) (by rw [e1, List.length_append]; omega)
    exact ⟨by rw [e3, e1, List.append_assoc], by omega⟩
  · rw [List.length_append] at hl
    by_cases hf : 200 < st.s.length + f.length
    · have := h5 hf hd
      omega
    · obtain ⟨e1, e2⟩ := h4 hd (by omega)
      exact k5 (by rw [e1, List.length_append]; omega) (by omega)
theorem Wrote.br {st r : St} {f : List Nat} {dp : Nat} (h : Wrote st.opn f dp r) : Wrote st (br true f) (dp + 1) r.close := by
  obtain ⟨h1, h2, h3, h4, h5⟩ := h
  simp only [St.opn, List.length_append, List.length_cons, List.length_nil] at h1 h2 h3 h4 h5
  have hb : (Go.Proofs.YtnkiiphliilegaaDoor.br true f).length = f.length + 2 := by simp [Go.Proofs.YtnkiiphliilegaaDoor.br]
  refine ⟨by simp only [St.close]; omega, by simp only [St.close, List.length_append, List.length_cons, List.length_nil]; omega, by simp only [St.close]; omega, fun hd hl => ?_, fun hl hd => ?_⟩
  · obtain ⟨e1, e2⟩ := h4 (by omega) (by omega)
    refine ⟨?_, ?_⟩
    · simp [St.close, e1, Go.Proofs.YtnkiiphliilegaaDoor.br]
    · simp only [St.close]
      omega
  · simp only [St.close, List.length_append, List.length_cons, List.length_nil]
    by_cases hf : 200 < st.s.length + 1 + f.length
    · have := h5 (by omega) (by omega)
      omega
    · obtain ⟨e1, e2⟩ := h4 (by omega) (by omega)
      rw [e1]
      simp only [List.length_append, List.length_cons, List.length_nil]
      omega
theorem Wrote.stop {st : St} (f : List Nat) (dp : Nat) (h : 200 < st.s.length) : Wrote st f dp st := ⟨rfl, Nat.le_refl _, Nat.le_refl _, fun _ hl => by omega, fun _ _ => h⟩
mutual
theorem wTerm_wrote : ∀ (t : Tm) (st : St), Wrote st (form runs t) (deepT t) (wTerm runs t st)
  | .node op p mn mx ks, st => by
    unfold wTerm
    by_cases h : 200 < st.s.length
    · rw [if_pos h]
      exact Wrote.stop _ _ h
    · rw [if_neg h]
      unfold form deepT
      by_cases h6 : op < 6
      · simp only [h6, if_true]
        exact Wrote.put st _
      · simp only [h6, if_false]
        have := (wKids_wrote op true ks st).trans (Wrote.put _ (tailF op mn mx))
        simpa using this
theorem wKids_wrote (op : Int) (first : Bool) : ∀ (ks : List Tm) (st : St), Wrote st (formL runs op first ks) (deepL op ks) (wKids runs op first ks st)
  | [], st => by
    unfold formL deepL wKids
    simpa [St.put] using Wrote.put st []
  | k :: ks, st => by
    unfold formL deepL wKids
    have hb := Wrote.put st (bar op first)
    cases hi : inBr op (opOf k) with
    | true =>
      simp only [if_true]
      have h1 := hb.trans (Wrote.br (wTerm_wrote k (st.put (bar op first)).opn))
      have h2 := h1.trans (wKids_wrote op false ks _)
      simpa using h2
    | false =>
      simp only [Bool.false_eq_true, if_false, Nat.add_zero]
      have h1 := hb.trans (wTerm_wrote k (st.put (bar op first)))
      have h2 := h1.trans (wKids_wrote op false ks _)
      simpa [br] using h2
end

/- the reference's form -/
mutual
def rForm : Tm → List Nat
  | .node op p mn mx ks => if op < 6 then leafF runs op p else rKids op true ks [] ++ tailF op mn mx
def rKids (op : Int) (first : Bool) : List Tm → List Nat → List Nat
  | [], s => s
  | k :: ks, s => if s.length < 1000 then rKids op false ks (s ++ (bar op first ++ br (inBr op (opOf k)) (rForm k))) else s
end
/-- alike up to 200 letters -/
def Near (f g : List Nat) : Prop := (f.length ≤ 200 → g = f) ∧ (200 < f.length → 200 < g.length)
theorem Near.refl (f : List Nat) : Near f f := ⟨fun _ => rfl, id⟩
theorem Near.app {a b c d : List Nat} (h : Near a b) (k : Near c d) : Near (a ++ c) (b ++ d) := by
  unfold Near at *
  simp only [List.length_append]
  refine ⟨fun hl => by rw [h.1 (by omega), k.1 (by omega)], fun hl => ?_⟩
  by_cases ha : 200 < a.length
  · have := h.2 ha
    omega
  · by_cases hc : 200 < c.length
    · have := k.2 hc
      omega
    · rw [h.1 (by omega), k.1 (by omega)]
      omega
theorem Near.br {f g : List Nat} (b : Bool) (h : Near f g) : Near (br b f) (br b g) := by
  cases b with
  | false => exact h
  | true =>
    have := (Near.refl [40]).app (h.app (Near.refl [41]))
    simpa [Go.Proofs.YtnkiiphliilegaaDoor.br] using this
mutual
theorem rForm_near : ∀ t : Tm, Near (form runs t) (rForm runs t)
  | .node op p mn mx ks => by
    unfold form rForm
    by_cases h6 : op < 6
    · simp only [h6, if_true]
      exact Near.refl _
    · simp only [h6, if_false]
      have := rKids_near op true ks [] [] (Near.refl [])
      exact Near.app (by simpa using this) (Near.refl _)
theorem rKids_near (op : Int) (first : Bool) : ∀ (ks : List Tm) (f0 s : List Nat), Near f0 s → Near (f0 ++ formL runs op first ks) (rKids runs op first ks s)
  | [], f0, s, h => by
    unfold formL rKids
    simpa using h
  | k :: ks, f0, s, h => by
    unfold formL rKids
    by_cases hs : s.length < 1000
    · rw [if_pos hs, ← List.append_assoc]
      exact rKids_near op false ks _ _ (h.app ((Near.refl _).app ((rForm_near k).br _)))
    · rw [if_neg hs]
      refine ⟨fun hl => ?_, fun _ => by omega⟩
      rw [List.length_append] at hl
      have := h.1 (by omega)
      rw [this] at hs
      omega
end

/-- the reference's count of open brackets: are more than 30 open at once? -/
def exceed : Int → List Nat → Bool
  | _, [] => false
  | d, c :: cs => let d' := if c = 40 then d + 1 else if c = 41 then d - 1 else d
    if 30 < d' then true else exceed d' cs
def Clean (s : List Nat) : Prop := ∀ c ∈ s, c ≠ 40 ∧ c ≠ 41
theorem exceed_clean {d : Int} (hd : d ≤ 30) (rest : List Nat) : ∀ s : List Nat, Clean s → exceed d (s ++ rest) = exceed d rest
  | [], _ => rfl
  | c :: s, h => by
    have hc := h c (by simp)
    have hn : ¬ (30 : Int) < d := by omega
    show (let d' := if c = 40 then d + 1 else if c = 41 then d - 1 else d; if 30 < d' then true else exceed d' (s ++ rest)) = _
    simp only [hc.1, hc.2, if_false, hn]
    exact exceed_clean hd rest s fun x hx => h x (by simp [hx])
theorem Clean.app {s t : List Nat} (h : Clean s) (k : Clean t) : Clean (s ++ t) := by
  intro c hc
  rcases List.mem_append.1 hc with hc | hc
  · exact h c hc
  · exact k c hc
theorem clean_of (s : List Nat) (h : ∀ c ∈ s, 41 < c) : Clean s := fun c hc => by have := h c hc; omega
theorem hexd_high (x : Nat) : 41 < hexd x := by
  unfold hexd
  split <;> omega
theorem byteF_high (b : Nat) : ∀ c ∈ byteF b, 41 < c := by
  unfold byteF
  intro c hc
  split at hc
  · rename_i h
    simp at hc
    subst hc
    simp [isAl] at h
    omega
  · simp at hc
    rcases hc with rfl | rfl | rfl | rfl
    · omega
    · omega
    · exact hexd_high _
    · exact hexd_high _
theorem numF_high : ∀ n : Nat, ∀ c ∈ numF n, 41 < c
  | n => by
    intro c hc
    rw [numF] at hc
    split at hc
    · simp at hc
      omega
    · rcases List.mem_append.1 hc with hc | hc
      · exact numF_high (n / 10) c hc
      · simp at hc
        omega
theorem runF_high (r : Nat × Nat) : ∀ c ∈ runF r, 41 < c := by
  unfold runF
  intro c hc
  rcases List.mem_append.1 hc with hc | hc
  · exact byteF_high _ c hc
  · rcases List.mem_append.1 hc with hc | hc
    · split at hc <;> simp at hc
      omega
    · split at hc
      · exact byteF_high _ c hc
      · simp at hc
theorem setF_high (R : List (Nat × Nat)) : ∀ c ∈ setF R, 41 < c := by
  unfold setF
  intro c hc
  split at hc
  · simp at hc
    omega
  · split at hc
    · exact byteF_high _ c hc
    · rcases List.mem_cons.1 hc with rfl | hc
      · omega
      · rcases List.mem_append.1 hc with hc | hc
        · obtain ⟨r, _, hr⟩ := List.mem_flatMap.1 hc
          exact runF_high r c hr
        · simp at hc
          omega
theorem quantF_high (mn mx : Int) : ∀ c ∈ quantF mn mx, 41 < c := by
  unfold quantF
  intro c hc
  have hn := numF_high mn.toNat
  have hm := numF_high mx.toNat
  split at hc
  · simp at hc; omega
  split at hc
  · simp at hc; omega
  split at hc
  · simp at hc; omega
  split at hc
  · simp only [List.mem_cons, List.mem_append, List.not_mem_nil, or_false] at hc
    rcases hc with rfl | hc | rfl
    · omega
    · exact hn c hc
    · omega
  split at hc
  · simp only [List.mem_cons, List.mem_append, List.not_mem_nil, or_false] at hc
    rcases hc with rfl | hc | rfl | rfl
    · omega
    · exact hn c hc
    · omega
    · omega
  · simp only [List.mem_cons, List.mem_append, List.not_mem_nil, or_false] at hc
    rcases hc with rfl | hc | rfl | hc | rfl
    · omega
    · exact hn c hc
    · omega
    · exact hm c hc
    · omega
theorem leafF_clean (op : Int) (p : Nat → Bool) : Clean (leafF runs op p) := by
  unfold leafF
  intro c hc
  split at hc
  · have := setF_high _ c hc
    omega
  split at hc
  · simp at hc; omega
  split at hc
  · simp at hc; omega
  split at hc
  · simp at hc; omega
  · simp at hc
theorem tailF_clean (op : Int) (mn mx : Int) : Clean (tailF op mn mx) := by
  unfold tailF
  split
  · exact clean_of _ (quantF_high mn mx)
  · intro c hc; cases hc
theorem bar_clean (op : Int) (first : Bool) : Clean (bar op first) := by
  unfold bar
  intro c hc
  split at hc
  · simp at hc; omega
  · cases hc
theorem exceed_in {d : Int} (h : (30 : Int) < d + 1) (cs : List Nat) : exceed d (40 :: cs) = true := by simp [exceed, h]
theorem exceed_open {d : Int} (h : ¬ (30 : Int) < d + 1) (cs : List Nat) : exceed d (40 :: cs) = exceed (d + 1) cs := by simp [exceed, h]
theorem exceed_close {d : Int} (h : d ≤ 30) (cs : List Nat) : exceed (d + 1) (41 :: cs) = exceed d cs := by
  have h1 : ¬ (30 : Int) < d := by omega
  have h2 : d + 1 - 1 = d := by omega
  show (let d' := if (41 : Nat) = 40 then d + 1 + 1 else if (41 : Nat) = 41 then d + 1 - 1 else d + 1; if 30 < d' then true else exceed d' cs) = _
  rw [if_neg (show ¬ (41 : Nat) = 40 by decide), if_pos rfl, h2]
  simp only [h1, if_false]
theorem or_max {d : Int} {a b : Nat} {x : Bool} : (decide (30 < d + (a : Int)) || (decide (30 < d + (b : Int)) || x)) = (decide (30 < d + ((max a b : Nat) : Int)) || x) := by
  rw [← Bool.or_assoc]
  congr 1
  rw [Bool.eq_iff_iff]
  simp only [Bool.or_eq_true, decide_eq_true_eq]
  omega
theorem or_none {d : Int} (h : d ≤ 30) (x : Bool) : (decide (30 < d + ((0 : Nat) : Int)) || x) = x := by
  have : ¬ (30 : Int) < d + ((0 : Nat) : Int) := by omega
  simp only [this, decide_false, Bool.false_or]
mutual
theorem exceed_form : ∀ (t : Tm) (d : Int) (rest : List Nat), d ≤ 30 → exceed d (form runs t ++ rest) = (decide (30 < d + (deepT t : Int)) || exceed d rest)
  | .node op p mn mx ks, d, rest, hd => by
    unfold form deepT
    by_cases h6 : op < 6
    · simp only [h6, if_true]
      rw [exceed_clean hd rest _ (leafF_clean runs op p), or_none hd]
    · simp only [h6, if_false]
      rw [List.append_assoc, exceed_formL op true ks d (tailF op mn mx ++ rest) hd, exceed_clean hd rest _ (tailF_clean op mn mx)]
theorem exceed_formL (op : Int) (first : Bool) : ∀ (ks : List Tm) (d : Int) (rest : List Nat), d ≤ 30 → exceed d (formL runs op first ks ++ rest) = (decide (30 < d + (deepL op ks : Int)) || exceed d rest)
  | [], d, rest, hd => by
    unfold formL deepL
    rw [or_none hd, List.nil_append]
  | k :: ks, d, rest, hd => by
    unfold formL deepL
    rw [List.append_assoc, List.append_assoc, exceed_clean hd _ _ (bar_clean op first)]
    cases hi : inBr op (opOf k) with
    | false =>
      simp only [br, Bool.false_eq_true, if_false, Nat.add_zero]
      rw [exceed_form k d _ hd, exceed_formL op false ks d rest hd, or_max]
    | true =>
      simp only [br, if_true, List.cons_append, List.append_assoc, List.nil_append]
      rw [← or_max]
      by_cases h31 : (30 : Int) < d + 1
      · rw [exceed_in h31]
        have : (30 : Int) < d + ((deepT k + 1 : Nat) : Int) := by omega
        simp only [this, decide_true, Bool.true_or]
      · rw [exceed_open h31, exceed_form k (d + 1) _ (by omega), exceed_close hd, exceed_formL op false ks d rest hd]
        have : d + 1 + (deepT k : Int) = d + ((deepT k + 1 : Nat) : Int) := by omega
        rw [this]
end
/-- the writer and the reference say the same -/
theorem show_same (t : Tm) : (200 < (wTerm runs t ⟨[], 0, 0⟩).s.length ↔ 200 < (rForm runs t).length) ∧
    (¬ 200 < (rForm runs t).length → (wTerm runs t ⟨[], 0, 0⟩).s = rForm runs t ∧ (30 < (wTerm runs t ⟨[], 0, 0⟩).dd ↔ exceed 0 (rForm runs t) = true)) := by
  obtain ⟨_, _, _, h4, h5⟩ := wTerm_wrote runs t ⟨[], 0, 0⟩
  have hn := rForm_near runs t
  simp only [List.length_nil, Nat.zero_add, List.nil_append] at h4 h5
  by_cases hf : 200 < (form runs t).length
  · have a := h5 hf (Nat.le_refl _)
    have b := hn.2 hf
    exact ⟨⟨fun _ => b, fun _ => a⟩, fun h => absurd b h⟩
  · obtain ⟨e1, e2⟩ := h4 (Nat.le_refl _) (by omega)
    have e3 := hn.1 (by omega)
    rw [e1, e3]
    refine ⟨Iff.rfl, fun _ => ⟨rfl, ?_⟩⟩
    have := exceed_form runs t 0 [] (by omega)
    rw [List.append_nil] at this
    rw [this, e2]
    simp only [exceed, Bool.or_false, decide_eq_true_eq]
    omega
end
end Go.Proofs.YtnkiiphliilegaaDoor
