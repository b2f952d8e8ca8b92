/- The search for a row, plainly: what is cut off holds no row that a queue does; the first row that is found is the first of all rows in order. Plain Lean. -/
import Derived.Test.YtkbbpjknakajeaaTPlain
import Derived.Test.YtkbbpjknakajeaaDoes
import Derived.Test.YtkbbpjknakajeaaFitsR
namespace Go.Proofs.Ytkbbpjknakajeaa.Li
open Go.RowKit Go.Shelf Go.Sort
open Ex (rows dec mult arr_get count_row)
/-- a row fits, and a queue does it -/
def G (l : Array QOp) (r : List Int) : Prop := FitsR l r.toArray r.toArray.size ∧ Plays l r.toArray
open Classical in
/-- the first that has Q -/
noncomputable def fnd (Q : List Int → Prop) (L : List (List Int)) : Option (List Int) := L.find? fun t => decide (Q t)
theorem fnd_none {Q : List Int → Prop} {L : List (List Int)} : fnd Q L = none ↔ ∀ t ∈ L, ¬ Q t := by simp [fnd]
theorem fnd_append {Q : List Int → Prop} {A B : List (List Int)} (h : fnd Q A = none) : fnd Q (A ++ B) = fnd Q B := by
  unfold fnd at *
  rw [List.find?_append, h]; rfl
theorem fnd_append_some {Q : List Int → Prop} {A B : List (List Int)} {r : List Int} (h : fnd Q A = some r) : fnd Q (A ++ B) = some r := by
  unfold fnd at *
  rw [List.find?_append, h]; rfl
theorem fnd_map {Q : List Int → Prop} {L : List (List Int)} (i : Int) : fnd Q (L.map (i :: ·)) = (fnd (fun t => Q (i :: t)) L).map (i :: ·) := by
  unfold fnd
  rw [List.find?_map]; rfl
theorem fnd_congr {Q R : List Int → Prop} {L : List (List Int)} (h : ∀ t, Q t ↔ R t) : fnd Q L = fnd R L := by
  have : Q = R := funext fun t => propext (h t)
  rw [this]
theorem fnd_at {Q : List Int → Prop} {L : List (List Int)} {k : Nat} {r : List Int} (hk : L[k]? = some r) (hn : fnd Q (L.take k) = none) (hr : Q r) : fnd Q L = some r := by
  have hlt := (List.getElem?_eq_some_iff.1 hk).1
  have e : L = L.take k ++ (L[k] :: L.drop (k + 1)) := by rw [List.getElem_cons_drop, List.take_append_drop]
  have e2 : L[k] = r := (List.getElem?_eq_some_iff.1 hk).2
  rw [e, fnd_append hn, e2]
  unfold fnd
  rw [List.find?_cons_of_pos (by simpa using hr)]
theorem fnd_take {Q : List Int → Prop} {L : List (List Int)} {k : Nat} {r : List Int} (hk : L[k]? = some r) (hn : fnd Q (L.take k) = none) (hr : ¬ Q r) : fnd Q (L.take (k + 1)) = none := by
  rw [fnd_none] at hn ⊢
  intro t ht
  rw [List.take_add_one, List.mem_append] at ht
  rcases ht with ht | ht
  · exact hn t ht
  · rw [hk] at ht; simp at ht; subst ht; exact hr
/-- what is left when the numbers of p are used: each number once -/
def cOf (n : Nat) (p : List Int) : List Nat := (List.range n).map fun i : Nat => if (i : Int) ∈ p then 0 else 1
theorem cOf_length (n : Nat) (p : List Int) : (cOf n p).length = n := by simp [cOf]
theorem cOf_get (n : Nat) (p : List Int) (i : Nat) (h : i < n) : (cOf n p).getD i 0 = if (i : Int) ∈ p then 0 else 1 := by
  simp [cOf, List.getD, h]
theorem cOf_dec (n : Nat) (p : List Int) (i : Nat) (h : i < n) (hi : (i : Int) ∉ p) : dec (cOf n p) i = cOf n (p ++ [(i : Int)]) := by
  apply List.ext_getElem?
  intro j
  rcases Nat.lt_or_ge j n with hj | hj
  · have h1 : (dec (cOf n p) i)[j]? = some ((dec (cOf n p) i).getD j 0) := by
      simp [List.getD, dec, cOf_length, hj]
    have h2 : (cOf n (p ++ [(i : Int)]))[j]? = some ((cOf n (p ++ [(i : Int)])).getD j 0) := by
      simp [List.getD, cOf_length, hj]
    rw [h1, h2, Ex.dec_get, cOf_get n (p ++ [(i : Int)]) j hj, cOf_get n p i h, cOf_get n p j hj, if_neg hi]
    simp only [List.mem_append, List.mem_singleton]
    by_cases e : i = j
    · subst e; simp
    · rw [if_neg e]
      have : ¬ (j : Int) = (i : Int) := by omega
      simp [this]
  · rw [List.getElem?_eq_none (by rw [Ex.dec_length, cOf_length]; exact hj), List.getElem?_eq_none (by rw [cOf_length]; exact hj)]
theorem cOf_nil (n : Nat) : cOf n [] = List.replicate n 1 := by
  apply List.ext_getElem?
  intro j
  rcases Nat.lt_or_ge j n with hj | hj
  · simp [cOf, hj]
  · simp [cOf, hj]
/-! ### what stands in a row -/
theorem at_app (l : Array QOp) (p t : List Int) (k : Nat) (h : k < p.length) : at_ l (p ++ t).toArray k = at_ l p.toArray k := by
  unfold at_
  rw [arr_get, arr_get]
  congr 2
  simp only [List.getD, List.getElem?_append_left h]
theorem at_mid (l : Array QOp) (p t : List Int) (i : Int) : at_ l (p ++ i :: t).toArray p.length = l[i.toNat]! := by
  unfold at_
  rw [arr_get]
  congr 2
  simp [List.getD]
theorem run_app (l : Array QOp) (p t : List Int) : ∀ k, k ≤ p.length → run l (p ++ t).toArray k = run l p.toArray k
  | 0, _ => rfl
  | k + 1, h => by simp only [run]; rw [run_app l p t k (by omega), at_app l p t k (by omega)]
theorem run_end (l : Array QOp) (p t : List Int) (i : Int) {q : Array Int} (h : run l p.toArray p.length = some q) : run l (p ++ i :: t).toArray (p.length + 1) = stepA q l[i.toNat]! := by
  simp only [run]
  rw [run_app l p (i :: t) p.length (Nat.le_refl _), h, at_mid]; rfl
/-- what is known of a beginning p -/
structure Pre (l : Array QOp) (p : List Int) (q : Array Int) : Prop where
  within : ∀ x ∈ p, 0 ≤ x ∧ x < (l.size : Int)
  fits : FitsR l p.toArray p.length
  left : ∀ k : Nat, k < l.size → (k : Int) ∉ p → ∀ j, j < p.length → ¬ (l[k]!).to < (at_ l p.toArray j).fr
  ran : run l p.toArray p.length = some q
theorem Pre.nil (l : Array QOp) : Pre l [] #[] := ⟨fun x hx => by simp at hx, fun i hi => by simp at hi, fun k _ _ j hj => by simp at hj, rfl⟩
/-- may the call be the next one? -/
def May (l : Array QOp) (p : List Int) (i : Nat) : Prop := (i : Int) ∉ p ∧ ∀ k : Nat, k < l.size → (k : Int) ∉ p → k ≠ i → ¬ (l[k]!).to < (l[i]!).fr
theorem Pre.snoc {l : Array QOp} {p : List Int} {q q' : Array Int} (h : Pre l p q) {i : Nat} (hi : i < l.size) (hm : May l p i) (hs : stepA q l[i]! = some q') : Pre l (p ++ [(i : Int)]) q' := by
  have hlen : (p ++ [(i : Int)]).length = p.length + 1 := by simp
  have hat : ∀ j, j < p.length → at_ l (p ++ [(i : Int)]).toArray j = at_ l p.toArray j := fun j hj => at_app l p _ j hj
  have hmid : at_ l (p ++ [(i : Int)]).toArray p.length = l[i]! := by rw [at_mid]; rfl
  refine ⟨fun x hx => ?_, fun a ha j hj => ?_, fun k hk hkp j hj => ?_, ?_⟩
  · rcases List.mem_append.1 hx with h1 | h1
    · exact h.within x h1
    · simp at h1; subst h1; omega
  · rw [hlen] at ha
    rcases Nat.lt_or_ge a p.length with h1 | h1
    · rw [hat a h1, hat j (by omega)]; exact h.fits a h1 j hj
    · obtain rfl : a = p.length := by omega
      rw [hmid, hat j hj]; exact h.left i hi hm.1 j hj
  · have hkp' : (k : Int) ∉ p := fun e => hkp (List.mem_append.2 (.inl e))
    have hki : k ≠ i := fun e => hkp (List.mem_append.2 (.inr (by simp [e])))
    rw [hlen] at hj
    rcases Nat.lt_or_ge j p.length with h1 | h1
    · rw [hat j h1]; exact h.left k hk hkp' j h1
    · obtain rfl : j = p.length := by omega
      rw [hmid]; exact hm.2 k hk hkp' hki
  · rw [hlen, run_end l p [] (i : Int) h.ran]; exact hs
theorem Pre.good {l : Array QOp} {p : List Int} {q : Array Int} (h : Pre l p q) : G l p := by
  refine ⟨by simpa using h.fits, ?_⟩
  unfold Plays
  rw [show p.toArray.size = p.length from by simp, h.ran]; simp
/-- the rows that begin with p -/
noncomputable def goal (l : Array QOp) (p : List Int) (s : Nat) : Option (List Int) := fnd (fun t => G l (p ++ t)) (rows s (cOf l.size p))
theorem goal_full {l : Array QOp} {p : List Int} {q : Array Int} (h : Pre l p q) : goal l p 0 = some [] := by
  unfold goal fnd
  simp only [rows]
  rw [List.find?_cons_of_pos (by simpa using h.good)]
/-- the rows that begin with p and a number below i -/
noncomputable def upto (l : Array QOp) (p : List Int) (s i : Nat) : Option (List Int) := fnd (fun t => G l (p ++ t)) ((List.range' 0 i).flatMap (Ex.part s (cOf l.size p)))
theorem upto_zero (l : Array QOp) (p : List Int) (s : Nat) : upto l p s 0 = none := by simp [upto, fnd]
theorem upto_all (l : Array QOp) (p : List Int) (s : Nat) : upto l p s l.size = goal l p (s + 1) := by
  unfold upto goal
  congr 1
  show _ = (List.range' 0 (cOf l.size p).length).flatMap _
  rw [cOf_length]; rfl
theorem upto_succ {l : Array QOp} {p : List Int} {s i : Nat} (h : upto l p s i = none) : upto l p s (i + 1) = fnd (fun t => G l (p ++ t)) (Ex.part s (cOf l.size p) i) := by
  unfold upto at *
  rw [List.range'_1_concat, List.flatMap_append, fnd_append h, Nat.zero_add]
  simp
theorem part_used {l : Array QOp} {p : List Int} {s i : Nat} (hi : i < l.size) (h : (i : Int) ∈ p) : Ex.part s (cOf l.size p) i = [] := by
  unfold Ex.part
  rw [cOf_get _ _ _ hi, if_pos h]; rfl
theorem part_free {l : Array QOp} {p : List Int} {s i : Nat} (hi : i < l.size) (h : (i : Int) ∉ p) : Ex.part s (cOf l.size p) i = (rows s (cOf l.size (p ++ [(i : Int)]))).map ((i : Int) :: ·) := by
  unfold Ex.part
  rw [cOf_get _ _ _ hi, if_neg h, if_pos (by omega), cOf_dec _ _ _ hi h]
theorem fnd_part {l : Array QOp} {p : List Int} {s i : Nat} (hi : i < l.size) (h : (i : Int) ∉ p) : fnd (fun t => G l (p ++ t)) (Ex.part s (cOf l.size p) i) = (goal l (p ++ [(i : Int)]) s).map ((i : Int) :: ·) := by
  rw [part_free hi h, fnd_map]
  unfold goal
  congr 1
  exact fnd_congr fun t => by simp
/-- a number that is left stands in the rest -/
theorem left_mem {n : Nat} {p : List Int} {s k : Nat} (hk : k < n) (hp : (k : Int) ∉ p) (hs : (cOf n p).sum = s) {t : List Int} (ht : t ∈ rows s (cOf n p)) : (k : Int) ∈ t := by
  have := count_row s (cOf n p) t hs ht (k : Int)
  rw [Ex.mult_nat, cOf_get n p k hk, if_neg hp] at this
  exact List.count_pos_iff.1 (by omega)
theorem cOf_sum_snoc {n : Nat} {p : List Int} {i s : Nat} (hi : i < n) (h : (i : Int) ∉ p) (hs : (cOf n p).sum = s + 1) : (cOf n (p ++ [(i : Int)])).sum = s := by
  have := Ex.sum_dec (cOf n p) i (by rw [cOf_get n p i hi, if_neg h]; omega)
  rw [cOf_dec n p i hi h] at this
  omega
/-- what is cut off holds nothing -/
theorem cut {l : Array QOp} {p : List Int} {s i : Nat} (hi : i < l.size) (hs : (cOf l.size p).sum = s + 1) (hp : ¬ May l p i) : fnd (fun t => G l (p ++ t)) (Ex.part s (cOf l.size p) i) = none := by
  by_cases h : (i : Int) ∈ p
  · rw [part_used hi h]; rfl
  · rw [part_free hi h, fnd_none]
    intro t ht hg
    obtain ⟨t', ht', rfl⟩ := List.mem_map.1 ht
    have hne : ¬ ∀ k : Nat, k < l.size → (k : Int) ∉ p → k ≠ i → ¬ (l[k]!).to < (l[i]!).fr := fun e => hp ⟨h, e⟩
    simp only [Classical.not_forall, Classical.not_not] at hne
    obtain ⟨k, hk, hkp, hki, hlt⟩ := hne
    have hk' : (k : Int) ∉ p ++ [(i : Int)] := by
      intro e
      rcases List.mem_append.1 e with e | e
      · exact hkp e
      · simp at e; omega
    have hm := left_mem hk hk' (cOf_sum_snoc hi h hs) ht'
    obtain ⟨a, ha, hx⟩ := List.getElem_of_mem hm
    have hat : at_ l (p ++ (i : Int) :: t').toArray (p.length + 1 + a) = l[k]! := by
      unfold at_
      rw [arr_get]
      have : (p ++ (i : Int) :: t').getD (p.length + 1 + a) 0 = (k : Int) := by
        simp only [List.getD]
        rw [List.getElem?_append_right (by omega), show p.length + 1 + a - p.length = a + 1 from by omega, List.getElem?_cons_succ, List.getElem?_eq_getElem ha, hx]
        rfl
      rw [this]; rfl
    have hf := hg.1 (p.length + 1 + a) (by simp; omega) p.length (by omega)
    rw [hat, at_mid] at hf
    exact hf (by simpa using hlt)
theorem cut_step {l : Array QOp} {p : List Int} {q : Array Int} (h : Pre l p q) {s i : Nat} (hi : i < l.size) (hst : stepA q l[i]! = none) : fnd (fun t => G l (p ++ t)) (Ex.part s (cOf l.size p) i) = none := by
  by_cases hm : (i : Int) ∈ p
  · rw [part_used hi hm]; rfl
  · rw [part_free hi hm, fnd_none]
    intro t ht hg
    obtain ⟨t', ht', rfl⟩ := List.mem_map.1 ht
    have h1 := run_end l p t' (i : Int) h.ran
    rw [show ((i : Int)).toNat = i from rfl, hst] at h1
    have h2 := run_none h1 (t'.length)
    refine hg.2 ?_
    rw [show (p ++ (i : Int) :: t').toArray.size = p.length + 1 + t'.length from by simp; omega]
    exact h2
end Go.Proofs.Ytkbbpjknakajeaa.Li
