/- Rows of gauges in the order of their names: plain laws. -/
import Derived.Test.YtkbbpjknakajeaaPSum
namespace Go.Proofs.Ytkbbpjknakajeaa
open Go Go.AE Go.RowKit Go.Lib Go.Sort
def lessB (a b : ByteArray) : Bool := Op.bytesLess a.toList b.toList
theorem bytesLess_cmp : ∀ a b : List UInt8, Op.bytesLess a b = decide (compareBytes a b < 0)
  | [], [] => rfl
  | [], _ :: _ => rfl
  | _ :: _, [] => rfl
  | a :: xs, b :: ys => by
    rw [cmp_cons]
    have ih := bytesLess_cmp xs ys
    unfold Op.bytesLess
    by_cases h1 : a < b
    · simp [h1]
    · by_cases h2 : b < a
      · have : ¬ a = b := fun e => h1 (e ▸ (e ▸ h2))
        simp [h1, h2, this]
      · obtain rfl := u8_eq h1 h2
        simp [h1, ih]
theorem less_cf (x y : ByteArray × Int) : lessB x.1 y.1 = ltOf cfG x y := by
  unfold lessB
  rw [bytesLess_cmp, ByteArray.toList_eq, ByteArray.toList_eq]
  rfl
theorem cmp_eq : ∀ a b : List UInt8, ¬ compareBytes a b < 0 → ¬ compareBytes b a < 0 → a = b
  | [], [], _, _ => rfl
  | [], _ :: _, h, _ => by simp [compareBytes] at h
  | _ :: _, [], _, h => by simp [compareBytes] at h
  | a :: xs, b :: ys, h1, h2 => by
    rw [cmp_cons] at h1 h2
    by_cases hab : a < b
    · rw [if_pos hab] at h1; omega
    · by_cases hba : b < a
      · rw [if_pos hba] at h2; omega
      · obtain rfl := u8_eq hab hba
        rw [if_neg hab, if_neg hab] at h1 h2
        rw [cmp_eq xs ys h1 h2]
theorem bytes_eq {a b : ByteArray} (h : a.data.toList = b.data.toList) : a = b := by
  obtain ⟨⟨a⟩⟩ := a
  obtain ⟨⟨b⟩⟩ := b
  simp only at h
  rw [h]
theorem less_tri {a b : ByteArray} (h1 : lessB a b = false) (h2 : lessB b a = false) : a = b := by
  unfold lessB at h1 h2
  rw [bytesLess_cmp, ByteArray.toList_eq, ByteArray.toList_eq] at h1 h2
  exact bytes_eq (cmp_eq _ _ (by simpa using h1) (by simpa using h2))
theorem less_irr (a : ByteArray) : lessB a a = false := by
  have := swoG.irrefl (a, 0)
  rw [← less_cf] at this
  exact this
theorem less_trans {a b c : ByteArray} (h1 : lessB a b = true) (h2 : lessB b c = true) : lessB a c = true := by
  have := swoG.trans (a, 0) (b, 0) (c, 0)
  simp only [← less_cf] at this
  exact this h1 h2
/-- in the order of their names, each once -/
def Srt (L : List (ByteArray × Int)) : Prop := L.Pairwise fun x y => lessB x.1 y.1 = true
theorem Srt.uniq {L : List (ByteArray × Int)} (h : Srt L) : ∀ x ∈ L, ∀ y ∈ L, x.1 = y.1 → x = y := by
  intro x hx y hy e
  induction h with
  | nil => cases hx
  | cons hz _ ih =>
    rcases List.mem_cons.1 hx with rfl | hx
    · rcases List.mem_cons.1 hy with rfl | hy
      · rfl
      · have := hz y hy
        rw [← e, less_irr] at this; cases this
    · rcases List.mem_cons.1 hy with rfl | hy
      · have := hz x (by assumption)
        rw [e, less_irr] at this; cases this
      · exact ih hx hy
/-- a sorted row that holds the same is the same -/
theorem srt_eq {L : List (ByteArray × Int)} (h : Srt L) (d : Array (ByteArray × Int)) (hs : SortedIn (ltOf cfG) 0 d.size d) (hp : d.toList.Perm L) : d.toList = L := by
  refine List.Perm.eq_of_pairwise (le := fun x y => ltOf cfG y x = false) (fun x y hx hy h1 h2 => ?_) ?_ ?_ hp
  · rw [← less_cf] at h1 h2
    exact h.uniq x (hp.mem_iff.1 hx) y hy (less_tri h2 h1)
  · rw [List.pairwise_iff_getElem]
    intro i j hi hj hij
    have hi' : i < d.size := by simpa using hi
    have hj' : j < d.size := by simpa using hj
    have := hs i j (Nat.zero_le _) hij hj'
    rw [getElem!_pos d i hi', getElem!_pos d j hj'] at this
    simpa using this
  · refine h.imp fun {x y} hxy => ?_
    rw [← less_cf]
    cases hc : lessB y.1 x.1 with
    | false => rfl
    | true =>
      have := less_trans hxy hc
      rw [less_irr] at this; cases this
def Ahead (L : List (ByteArray × Int)) (s : ByteArray) (k : Nat) : Prop := ∀ j x, j < k → L[j]? = some x → lessB x.1 s = true
theorem Srt.after {L : List (ByteArray × Int)} (h : Srt L) {k : Nat} {s : ByteArray} (hne : ∀ y, L[k]? = some y → y.1 ≠ s ∧ lessB y.1 s = false) : ∀ y ∈ L.drop k, lessB s y.1 = true := by
  intro y hy
  obtain ⟨j, hj⟩ := List.getElem?_of_mem hy
  rw [List.getElem?_drop] at hj
  have hkj : k + j < L.length := (List.getElem?_eq_some_iff.1 hj).1
  obtain ⟨z, hz⟩ : ∃ z, L[k]? = some z := ⟨L[k], List.getElem?_eq_getElem (by omega)⟩
  obtain ⟨h1, h2⟩ := hne z hz
  have hsz : lessB s z.1 = true := by
    cases hc : lessB s z.1 with
    | true => rfl
    | false => exact absurd (less_tri h2 hc) h1
  rcases Nat.eq_zero_or_pos j with rfl | hj0
  · rw [Nat.add_zero, hz] at hj
    obtain rfl := Option.some.inj hj
    exact hsz
  · have hp := (List.pairwise_iff_getElem.1 h) k (k + j) (by omega) hkj (by omega)
    rw [List.getElem?_eq_getElem (by omega)] at hz hj
    obtain rfl := Option.some.inj hz
    obtain rfl := Option.some.inj hj
    exact less_trans hsz hp
/-- a new name laid in where it belongs -/
theorem Srt.ins {L : List (ByteArray × Int)} (h : Srt L) {k : Nat} {s : ByteArray} (hA : Ahead L s k) (hne : ∀ y, L[k]? = some y → y.1 ≠ s ∧ lessB y.1 s = false) (z : Int) : Srt (L.take k ++ (s, z) :: L.drop k) := by
  have h2 := h.after hne
  have hL : (L.take k ++ L.drop k).Pairwise (fun x y => lessB x.1 y.1 = true) := by rw [List.take_append_drop]; exact h
  rw [List.pairwise_append] at hL
  unfold Srt
  rw [List.pairwise_append]
  refine ⟨hL.1, List.pairwise_cons.2 ⟨h2, hL.2.1⟩, fun x hx y hy => ?_⟩
  have hxs : lessB x.1 s = true := by
    obtain ⟨j, hj⟩ := List.getElem?_of_mem hx
    rw [List.getElem?_take] at hj
    split at hj
    · rename_i hlt; exact hA j x hlt hj
    · cases hj
  rcases List.mem_cons.1 hy with rfl | hy
  · exact hxs
  · exact less_trans hxs (h2 y hy)
/-- a name that does not stand there -/
theorem Srt.not_in {L : List (ByteArray × Int)} (h : Srt L) {k : Nat} {s : ByteArray} (hA : Ahead L s k) (hne : ∀ y, L[k]? = some y → y.1 ≠ s ∧ lessB y.1 s = false) : ∀ x ∈ L, x.1 ≠ s := by
  intro x hx e
  rw [← List.take_append_drop k L] at hx
  rcases List.mem_append.1 hx with hx | hx
  · obtain ⟨j, hj⟩ := List.getElem?_of_mem hx
    rw [List.getElem?_take] at hj
    split at hj
    · rename_i hlt
      have := hA j x hlt hj
      rw [e, less_irr] at this; cases this
    · cases hj
  · have := h.after hne x hx
    rw [e, less_irr] at this; cases this
theorem Srt.set {L : List (ByteArray × Int)} (h : Srt L) {k : Nat} {s : ByteArray} {z : Int} (hk : L[k]? = some (s, z)) (z' : Int) : Srt (L.set k (s, z')) := by
  unfold Srt
  rw [List.pairwise_iff_getElem]
  intro i j hi hj hij
  have hi' : i < L.length := by simpa using hi
  have hj' : j < L.length := by simpa using hj
  have hp := (List.pairwise_iff_getElem.1 h) i j hi' hj' hij
  obtain ⟨hkl, hke⟩ := List.getElem?_eq_some_iff.1 hk
  rw [List.getElem_set, List.getElem_set]
  split
  · rename_i e
    subst e
    rw [if_neg (by omega)]
    rw [hke] at hp; exact hp
  · split
    · rename_i e; subst e; rw [hke] at hp; exact hp
    · exact hp
end Go.Proofs.Ytkbbpjknakajeaa
