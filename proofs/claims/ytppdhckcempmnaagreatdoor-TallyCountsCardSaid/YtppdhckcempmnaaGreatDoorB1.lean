/- YtppdhckcempmnaaGreatDoorCPlain; YtppdhckcempmnaaGreatDoorTPlain; YtppdhckcempmnaaGreatDoorCMap; YtppdhckcempmnaaGreatDoorEv; YtppdhckcempmnaaGreatDoorTch: in one text. -/
import Derived.WalkKit
import Derived.Test.YtppdhckcempmnaaGreatDoorProg
import Derived.Lib.Hide
import Derived.Maps.Own
import Derived.Lib.SlKeysI
import Derived.WalkSpells
import Derived.Lib.OthersKept
import Derived.OwnWalk
import Derived.Deep.LoopGhost
import Derived.Deep.RegionHeld3
/- Cells in the order of their places, plainly: a row that is kept in order, and a map, hold the same. Plain Lean. -/
namespace Go.Proofs.YtppdhckcempmnaaGreatDoor.Ce
open Go
def W64 (z : Int) : Int := RowKit.wrap64 z
/-- a cell: its place, how often it was looked at, how often written -/
structure Cl where
  p : Int
  lk : Int
  wr : Int
def bump (l w : Bool) (c : Cl) : Cl := ⟨c.p, if l then W64 (c.lk + 1) else c.lk, if w then W64 (c.wr + 1) else c.wr⟩
/-- how often it was touched -/
def Cl.sm (c : Cl) : Int := W64 (c.lk + c.wr)
/-- in order, each place once -/
def Srt (L : List Cl) : Prop := L.Pairwise fun x y => x.p < y.p
/-- ahead of place k all are less -/
def Ahead (L : List Cl) (p : Int) (k : Nat) : Prop := ∀ j x, j < k → L[j]? = some x → x.p < p
theorem Srt.uniq {L : List Cl} (h : Srt L) : ∀ x ∈ L, ∀ y ∈ L, x.p = y.p → x = y := by
  intro x hx y hy e
  induction h with
  | nil => cases hx
  | cons hz _ ih =>
    rcases List.mem_cons.1 hx with rfl | hx
    · rcases List.mem_cons.1 hy with rfl | hy
      · rfl
      · have := hz y hy; omega
    · rcases List.mem_cons.1 hy with rfl | hy
      · have := hz x (by assumption); omega
      · exact ih hx hy
theorem Srt.after {L : List Cl} (h : Srt L) {k : Nat} {p : Int} (hne : ∀ y, L[k]? = some y → p < y.p) : ∀ y ∈ L.drop k, p < y.p := by
  intro y hy
  obtain ⟨j, hj⟩ := List.getElem?_of_mem hy
  rw [List.getElem?_drop] at hj
  have hkj : k + j < L.length := (List.getElem?_eq_some_iff.1 hj).1
  obtain ⟨z, hz⟩ : ∃ z, L[k]? = some z := ⟨L[k], List.getElem?_eq_getElem (by omega)⟩
  have h1 := hne z hz
  rcases Nat.eq_zero_or_pos j with rfl | hj0
  · rw [Nat.add_zero, hz] at hj
    obtain rfl := Option.some.inj hj
    exact h1
  · have hp := (List.pairwise_iff_getElem.1 h) k (k + j) (by omega) hkj (by omega)
    have hz1 : L[k] = z := (List.getElem?_eq_some_iff.1 hz).2
    have hy1 : L[k + j] = y := (List.getElem?_eq_some_iff.1 hj).2
    rw [hz1, hy1] at hp
    omega
theorem Srt.ins {L : List Cl} (h : Srt L) {k : Nat} {c : Cl} (hA : Ahead L c.p k) (hne : ∀ y, L[k]? = some y → c.p < y.p) : Srt (L.take k ++ c :: L.drop k) := by
  have h2 := h.after hne
  have hL : (L.take k ++ L.drop k).Pairwise (fun x y => x.p < y.p) := by rw [List.take_append_drop]; exact h
  rw [List.pairwise_append] at hL
  unfold Srt
  rw [List.pairwise_append]
  refine ⟨hL.1, List.pairwise_cons.2 ⟨h2, hL.2.1⟩, fun x hx y hy => ?_⟩
  have hxs : x.p < c.p := by
    obtain ⟨j, hj⟩ := List.getElem?_of_mem hx
    rw [List.getElem?_take] at hj
    split at hj
    · rename_i hlt; exact hA j x hlt hj
    · cases hj
  rcases List.mem_cons.1 hy with rfl | hy
  · exact hxs
  · have := h2 y hy; omega
theorem Srt.not_in {L : List Cl} (h : Srt L) {k : Nat} {p : Int} (hA : Ahead L p k) (hne : ∀ y, L[k]? = some y → p < y.p) : ∀ x ∈ L, x.p ≠ p := by
  intro x hx e
  rw [← List.take_append_drop k L] at hx
  rcases List.mem_append.1 hx with hx | hx
  · obtain ⟨j, hj⟩ := List.getElem?_of_mem hx
    rw [List.getElem?_take] at hj
    split at hj
    · rename_i hlt
      have := hA j x hlt hj
      omega
    · cases hj
  · have := h.after hne x hx; omega
theorem Srt.set {L : List Cl} (h : Srt L) {k : Nat} {c c' : Cl} (hk : L[k]? = some c) (hp : c'.p = c.p) : Srt (L.set k c') := by
  unfold Srt
  rw [List.pairwise_iff_getElem]
  intro i j hi hj hij
  have hi' : i < L.length := by simpa using hi
  have hj' : j < L.length := by simpa using hj
  have hq := (List.pairwise_iff_getElem.1 h) i j hi' hj' hij
  obtain ⟨hkl, hke⟩ := List.getElem?_eq_some_iff.1 hk
  rw [List.getElem_set, List.getElem_set]
  split
  · rename_i e
    subst e
    rw [if_neg (by omega), hp]
    rw [hke] at hq; exact hq
  · split
    · rename_i e; subst e; rw [hp]; rw [hke] at hq; exact hq
    · exact hq
/-- the same cells, in order or not: the places in order are the row's -/
theorem keys_sorted {L M : List Cl} (h : Srt L) (hp : L.Perm M) {ks : List Int} (hk : ks.Perm (M.map Cl.p)) (hs : ks.Pairwise (· ≤ ·)) : ks = L.map Cl.p := by
  refine List.Perm.eq_of_pairwise (le := (· ≤ ·)) (fun a b _ _ h1 h2 => by omega) hs ?_ (hk.trans (hp.map Cl.p).symm)
  rw [List.pairwise_map]
  exact h.imp fun hxy => by omega
/-- what a map holds at a place of the row -/
theorem find_in {L M : List Cl} (h : Srt L) (hp : L.Perm M) {c : Cl} (hc : c ∈ L) : ∀ x ∈ M, x.p = c.p → x = c := fun x hx e => h.uniq x (hp.mem_iff.2 hx) c hc e
theorem set_self {α : Type} : ∀ {l : List α} {i : Nat} {a : α}, l[i]? = some a → l.set i a = l
  | [], _, _, h => by simp at h
  | x :: l, 0, a, h => by simp at h; simp [h]
  | x :: l, i + 1, a, h => by simp only [List.set_cons_succ, set_self (l := l) (i := i) (a := a) (by simpa using h)]
theorem set_perm {α : Type} : ∀ {l : List α} {k : Nat} {a : α} (b : α), l[k]? = some a → (l.set k b).Perm (b :: l.eraseIdx k)
  | [], _, _, _, h => by simp at h
  | x :: l, 0, a, b, h => by simp
  | x :: l, k + 1, a, b, h => by
    simp only [List.set_cons_succ, List.eraseIdx_cons_succ]
    exact ((set_perm b (l := l) (k := k) (a := a) (by simpa using h)).cons x).trans (List.Perm.swap b x _)
theorem perm_set {α : Type} {l m : List α} {i j : Nat} {a : α} (b : α) (h : l.Perm m) (hi : l[i]? = some a) (hj : m[j]? = some a) : (l.set i b).Perm (m.set j b) := by
  have h1 := set_perm a hi
  rw [set_self hi] at h1
  have h2 := set_perm a hj
  rw [set_self hj] at h2
  have h3 := (h1.symm.trans (h.trans h2)).cons_inv
  exact (set_perm b hi).trans ((h3.cons b).trans (set_perm b hj).symm)
/-- both go on alike: a cell that stands -/
theorem both_set {L M : List Cl} (h : Srt L) (hp : L.Perm M) {k j : Nat} {c : Cl} (l w : Bool) (hk : L[k]? = some c) (hj : M[j]? = some c) : Srt (L.set k (bump l w c)) ∧ (L.set k (bump l w c)).Perm (M.set j (bump l w c)) :=
  ⟨h.set hk rfl, perm_set _ hp hk hj⟩
/-- and a new one -/
theorem both_new {L M : List Cl} (h : Srt L) (hp : L.Perm M) {k : Nat} {c : Cl} (hA : Ahead L c.p k) (hne : ∀ y, L[k]? = some y → c.p < y.p) : Srt (L.take k ++ c :: L.drop k) ∧ (L.take k ++ c :: L.drop k).Perm (M ++ [c]) := by
  refine ⟨h.ins hA hne, ?_⟩
  refine List.Perm.trans List.perm_middle ?_
  rw [List.take_append_drop]
  exact (hp.cons _).trans ((List.perm_append_comm (l₁ := [c])).trans (List.Perm.refl _))
/-- a cell of the map stands in the row, and the other way round -/
theorem place_both {L M : List Cl} (hp : L.Perm M) (p : Int) : (∃ x ∈ L, x.p = p) ↔ ∃ x ∈ M, x.p = p :=
  ⟨fun ⟨x, hx, e⟩ => ⟨x, hp.mem_iff.1 hx, e⟩, fun ⟨x, hx, e⟩ => ⟨x, hp.mem_iff.2 hx, e⟩⟩
/-! ### one touch of a place -/
def putM (l w : Bool) (p : Int) : List Cl → List Cl
  | [] => [bump l w ⟨p, 0, 0⟩]
  | c :: M => if c.p = p then bump l w c :: M else c :: putM l w p M
def putL (l w : Bool) (p : Int) : List Cl → List Cl
  | [] => [bump l w ⟨p, 0, 0⟩]
  | c :: L => if c.p < p then c :: putL l w p L else if c.p = p then bump l w c :: L else bump l w ⟨p, 0, 0⟩ :: c :: L
theorem putM_at {l w : Bool} {p : Int} : ∀ {M : List Cl} {j : Nat} {c : Cl}, M[j]? = some c → c.p = p → (∀ i x, i < j → M[i]? = some x → x.p ≠ p) → putM l w p M = M.set j (bump l w c)
  | [], _, _, h, _, _ => by simp at h
  | x :: M, 0, c, h, hp, _ => by
    simp at h
    subst h
    simp [putM, hp]
  | x :: M, j + 1, c, h, hp, hA => by
    have h0 : x.p ≠ p := hA 0 x (by omega) rfl
    simp only [putM, if_neg h0, List.set_cons_succ]
    rw [putM_at (M := M) (j := j) (by simpa using h) hp (fun i y hi hy => hA (i + 1) y (by omega) (by simpa using hy))]
theorem putM_new {l w : Bool} {p : Int} : ∀ {M : List Cl}, (∀ x ∈ M, x.p ≠ p) → putM l w p M = M ++ [bump l w ⟨p, 0, 0⟩]
  | [], _ => rfl
  | x :: M, h => by
    simp only [putM, if_neg (h x (List.mem_cons_self ..)), List.cons_append]
    rw [putM_new (fun y hy => h y (List.mem_cons_of_mem _ hy))]
theorem putL_at {l w : Bool} {p : Int} : ∀ {L : List Cl} {k : Nat} {c : Cl}, Ahead L p k → L[k]? = some c → c.p = p → putL l w p L = L.set k (bump l w c)
  | [], _, _, _, h, _ => by simp at h
  | x :: L, 0, c, _, h, hp => by
    simp at h
    subst h
    simp [putL, hp]
  | x :: L, k + 1, c, hA, h, hp => by
    have h0 : x.p < p := hA 0 x (by omega) rfl
    simp only [putL, if_pos h0, List.set_cons_succ]
    rw [putL_at (L := L) (k := k) (fun j y hj hy => hA (j + 1) y (by omega) (by simpa using hy)) (by simpa using h) hp]
theorem putL_new {l w : Bool} {p : Int} : ∀ {L : List Cl} {k : Nat}, Ahead L p k → (∀ y, L[k]? = some y → p < y.p) → k ≤ L.length → putL l w p L = L.take k ++ bump l w ⟨p, 0, 0⟩ :: L.drop k
  | [], k, _, _, hk => by
    obtain rfl : k = 0 := by simpa using hk
    rfl
  | x :: L, 0, _, hn, _ => by
    have := hn x rfl
    simp only [putL, if_neg (show ¬ x.p < p by omega), if_neg (show ¬ x.p = p by omega), List.take_zero, List.drop_zero, List.nil_append]
  | x :: L, k + 1, hA, hn, hk => by
    have h0 : x.p < p := hA 0 x (by omega) rfl
    simp only [putL, if_pos h0, List.take_succ_cons, List.drop_succ_cons, List.cons_append]
    rw [putL_new (L := L) (k := k) (fun j y hj hy => hA (j + 1) y (by omega) (by simpa using hy)) (fun y hy => hn y (by simpa using hy)) (by simpa using hk)]
/-- where a place stands, or would stand -/
theorem where_L (L : List Cl) (p : Int) : ∃ k, k ≤ L.length ∧ Ahead L p k ∧ (∀ y, L[k]? = some y → p ≤ y.p) := by
  induction L with
  | nil => exact ⟨0, Nat.le_refl _, fun j x hj => by omega, fun y hy => by simp at hy⟩
  | cons c L ih =>
    by_cases h : c.p < p
    · obtain ⟨k, h1, h2, h3⟩ := ih
      refine ⟨k + 1, by simpa using h1, fun j x hj hx => ?_, fun y hy => h3 y (by simpa using hy)⟩
      match j, hx with
      | 0, hx => simp at hx; subst hx; exact h
      | j + 1, hx => exact h2 j x (by omega) (by simpa using hx)
    · exact ⟨0, Nat.zero_le _, fun j x hj => by omega, fun y hy => by simp at hy; subst hy; omega⟩
theorem bump_p (l w : Bool) (c : Cl) : (bump l w c).p = c.p := rfl
/-- each place once -/
def Once (M : List Cl) : Prop := M.Pairwise fun x y => x.p ≠ y.p
theorem Once.of {L M : List Cl} (h : Srt L) (hp : L.Perm M) : Once M := by
  have h1 : Once L := h.imp fun hxy => by omega
  exact hp.pairwise h1 (fun {x y} hxy => fun e => hxy e.symm)
theorem Once.first {M : List Cl} (h : Once M) {j : Nat} {c : Cl} (hj : M[j]? = some c) : ∀ i x, i < j → M[i]? = some x → x.p ≠ c.p := by
  intro i x hi hx
  obtain ⟨hjl, hje⟩ := List.getElem?_eq_some_iff.1 hj
  obtain ⟨hil, hie⟩ := List.getElem?_eq_some_iff.1 hx
  have := (List.pairwise_iff_getElem.1 h) i j hil hjl hi
  rw [hje, hie] at this
  exact this
/-- one touch: both go on alike -/
theorem put_both {L M : List Cl} (h : Srt L) (hp : L.Perm M) (l w : Bool) (p : Int) : Srt (putL l w p L) ∧ (putL l w p L).Perm (putM l w p M) := by
  obtain ⟨k, hk, hA, hn⟩ := where_L L p
  by_cases he : ∃ c, L[k]? = some c ∧ c.p = p
  · obtain ⟨c, hc, hcp⟩ := he
    obtain ⟨j, hj⟩ := List.getElem?_of_mem (hp.mem_iff.1 (List.mem_of_getElem? hc))
    rw [putL_at hA hc hcp, putM_at hj hcp (fun i x hi hx => by rw [← hcp]; exact (Once.of h hp).first hj i x hi hx)]
    exact both_set h hp l w hc hj
  · have hn' : ∀ y, L[k]? = some y → p < y.p := fun y hy => by
      have h1 := hn y hy
      have h2 : y.p ≠ p := fun e => he ⟨y, hy, e⟩
      omega
    have hnot := h.not_in hA hn'
    rw [putL_new hA hn' hk, putM_new (fun x hx => hnot x (hp.mem_iff.2 hx))]
    exact both_new h hp (c := bump l w ⟨p, 0, 0⟩) hA hn'
/-- touches of places, one behind the other -/
def putsM (l w : Bool) (ps : List Int) (M : List Cl) : List Cl := ps.foldl (fun M p => putM l w p M) M
def putsL (l w : Bool) (ps : List Int) (L : List Cl) : List Cl := ps.foldl (fun L p => putL l w p L) L
theorem puts_both (l w : Bool) : ∀ (ps : List Int) {L M : List Cl}, Srt L → L.Perm M → Srt (putsL l w ps L) ∧ (putsL l w ps L).Perm (putsM l w ps M)
  | [], _, _, h, hp => ⟨h, hp⟩
  | p :: ps, _, _, h, hp => by
    have h1 := put_both h hp l w p
    exact puts_both l w ps h1.1 h1.2
theorem putM_len (l w : Bool) (p : Int) : ∀ M, (putM l w p M).length ≤ M.length + 1
  | [] => Nat.le_refl _
  | c :: M => by
    unfold putM
    split
    · simp
    · simpa using putM_len l w p M
theorem putL_len (l w : Bool) (p : Int) : ∀ L, (putL l w p L).length ≤ L.length + 1
  | [] => Nat.le_refl _
  | c :: L => by
    unfold putL
    split
    · simpa using putL_len l w p L
    · split
      · simp
      · simp
/-! ### the cell that was touched most -/
/-- the first of those with the greatest sum -/
def best : List Cl → Option Cl
  | [] => none
  | c :: l => some (l.foldl (fun b x => if b.sm < x.sm then x else b) c)
theorem foldl_best : ∀ (l : List Cl) (b : Cl), let r := l.foldl (fun b x => if b.sm < x.sm then x else b) b
    (∀ x ∈ b :: l, x.sm ≤ r.sm) ∧ ∃ A B, b :: l = A ++ r :: B ∧ ∀ x ∈ A, x.sm < r.sm
  | [], b => ⟨fun x hx => by simp at hx; subst hx; exact Int.le_refl _, [], [], rfl, fun x hx => by cases hx⟩
  | y :: l, b => by
    simp only [List.foldl_cons]
    by_cases h : b.sm < y.sm
    · rw [if_pos h]
      obtain ⟨h1, A, B, h2, h3⟩ := foldl_best l y
      have hy := h1 y (List.mem_cons_self ..)
      refine ⟨fun x hx => ?_, b :: A, B, by rw [h2]; rfl, fun x hx => ?_⟩
      · rcases List.mem_cons.1 hx with rfl | hx
        · omega
        · exact h1 x hx
      · rcases List.mem_cons.1 hx with rfl | hx
        · omega
        · exact h3 x hx
    · rw [if_neg h]
      obtain ⟨h1, A, B, h2, h3⟩ := foldl_best l b
      have hb := h1 b (List.mem_cons_self ..)
      refine ⟨fun x hx => ?_, ?_⟩
      · rcases List.mem_cons.1 hx with rfl | hx
        · exact hb
        · rcases List.mem_cons.1 hx with rfl | hx
          · omega
          · exact h1 x (List.mem_cons_of_mem _ hx)
      · cases A with
        | nil =>
          obtain ⟨e1, e2⟩ := List.cons.inj h2
          exact ⟨[], y :: l, by rw [← e1]; rfl, fun x hx => by cases hx⟩
        | cons a A =>
          obtain ⟨rfl, e2⟩ := List.cons.inj h2
          refine ⟨b :: y :: A, B, congrArg (fun t => b :: y :: t) e2, fun x hx => ?_⟩
          have hbl := h3 b (List.mem_cons_self ..)
          rcases List.mem_cons.1 hx with rfl | hx
          · exact hbl
          · rcases List.mem_cons.1 hx with rfl | hx
            · omega
            · exact h3 x (List.mem_cons_of_mem _ hx)
end Go.Proofs.YtppdhckcempmnaaGreatDoor.Ce

/- Tallies, plainly: what an event costs is added alike by both. Plain Lean. -/
namespace Go.Proofs.YtppdhckcempmnaaGreatDoor.Ce
/-- a tally: loads, stores, adds, cases, failed, reads, writes, in, out, idle -/
structure Tl where
  f0 : Int
  f1 : Int
  f2 : Int
  f3 : Int
  f4 : Int
  f5 : Int
  f6 : Int
  f7 : Int
  f8 : Int
  f9 : Int
def Tl.zero : Tl := ⟨0, 0, 0, 0, 0, 0, 0, 0, 0, 0⟩
/-- an event, as far as it is asked here: whose step, which access, how many bytes -/
structure Ev where
  pk : Int
  act : Int
  pn : Int
  ak : Int
  at_ : Int
  n : Int
  v : Int
  w : Int
  bo : Option Addr
  bl : Nat
  bc : Nat
  av : Int
  done : Bool
  ao : Option Addr
  al : Nat
  ac : Nat
instance : Inhabited Ev := ⟨⟨0, 0, 0, 0, 0, 0, 0, 0, none, 0, 0, 0, false, none, 0, 0⟩⟩
/-- what an event costs -/
def one (x : Ev) : Tl :=
  if x.ak = 0 then { Tl.zero with f9 := 1 }
  else if x.ak = 1 then { Tl.zero with f0 := 1 }
  else if x.ak = 2 then { Tl.zero with f1 := 1 }
  else if x.ak = 3 then { Tl.zero with f2 := 1 }
  else if x.ak = 4 then (if x.done then { Tl.zero with f3 := 1 } else { Tl.zero with f3 := 1, f4 := 1 })
  else if x.ak = 5 then { Tl.zero with f5 := 1, f7 := x.al }
  else if x.ak = 6 then { Tl.zero with f6 := 1, f8 := x.bl }
  else Tl.zero
def plus (a b : Tl) : Tl := ⟨W64 (a.f0 + b.f0), W64 (a.f1 + b.f1), W64 (a.f2 + b.f2), W64 (a.f3 + b.f3), W64 (a.f4 + b.f4), W64 (a.f5 + b.f5), W64 (a.f6 + b.f6), W64 (a.f7 + b.f7), W64 (a.f8 + b.f8), W64 (a.f9 + b.f9)⟩
/-- the document's step -/
def stepR (t : Tl) (x : Ev) : Tl :=
  if x.ak = 0 then { t with f9 := W64 (t.f9 + 1) }
  else if x.ak = 1 then { t with f0 := W64 (t.f0 + 1) }
  else if x.ak = 2 then { t with f1 := W64 (t.f1 + 1) }
  else if x.ak = 3 then { t with f2 := W64 (t.f2 + 1) }
  else if x.ak = 4 then (if x.done then { t with f3 := W64 (t.f3 + 1) } else { t with f3 := W64 (t.f3 + 1), f4 := W64 (t.f4 + 1) })
  else if x.ak = 5 then { t with f5 := W64 (t.f5 + 1), f7 := W64 (t.f7 + x.al) }
  else if x.ak = 6 then { t with f6 := W64 (t.f6 + 1), f8 := W64 (t.f8 + x.bl) }
  else t
/-- each number is one of its kind -/
structure Ok (t : Tl) : Prop where
  o0 : W64 t.f0 = t.f0
  o1 : W64 t.f1 = t.f1
  o2 : W64 t.f2 = t.f2
  o3 : W64 t.f3 = t.f3
  o4 : W64 t.f4 = t.f4
  o5 : W64 t.f5 = t.f5
  o6 : W64 t.f6 = t.f6
  o7 : W64 t.f7 = t.f7
  o8 : W64 t.f8 = t.f8
  o9 : W64 t.f9 = t.f9
theorem W64_W64 (z : Int) : W64 (W64 z) = W64 z := by unfold W64 RowKit.wrap64; omega
theorem W64_zero : W64 0 = 0 := by unfold W64 RowKit.wrap64; omega
theorem Ok.zero : Ok Tl.zero := ⟨W64_zero, W64_zero, W64_zero, W64_zero, W64_zero, W64_zero, W64_zero, W64_zero, W64_zero, W64_zero⟩
theorem Ok.plus (a b : Tl) : Ok (plus a b) := ⟨W64_W64 _, W64_W64 _, W64_W64 _, W64_W64 _, W64_W64 _, W64_W64 _, W64_W64 _, W64_W64 _, W64_W64 _, W64_W64 _⟩
theorem step_eq {t : Tl} (h : Ok t) (x : Ev) : plus t (one x) = stepR t x := by
  obtain ⟨h0, h1, h2, h3, h4, h5, h6, h7, h8, h9⟩ := h
  obtain ⟨a0, a1, a2, a3, a4, a5, a6, a7, a8, a9⟩ := t
  simp only at h0 h1 h2 h3 h4 h5 h6 h7 h8 h9
  unfold plus one stepR
  repeat' split
  all_goals simp [Tl.zero, *]
/-- those events that count -/
def foldT (c : Ev → Bool) (l : Array Ev) : Nat → Tl
  | 0 => Tl.zero
  | k + 1 => if l[k]!.pk = 0 ∧ c l[k]! = true then stepR (foldT c l k) l[k]! else foldT c l k
theorem foldT_ok (c : Ev → Bool) (l : Array Ev) : ∀ k, Ok (foldT c l k)
  | 0 => Ok.zero
  | k + 1 => by
    unfold foldT
    split
    · rw [← step_eq (foldT_ok c l k)]; exact Ok.plus _ _
    · exact foldT_ok c l k
/-- how many bytes are touched; whether they are looked at; written -/
def touched (x : Ev) : Int × Bool × Bool :=
  if x.ak = 1 then (x.n, true, false)
  else if x.ak = 2 then (x.n, false, true)
  else if x.ak = 3 then (x.n, true, true)
  else if x.ak = 4 then (x.n, true, x.done)
  else if x.ak = 5 then ((x.al : Int), true, false)
  else if x.ak = 6 then ((x.bl : Int), false, true)
  else (0, false, false)
/-- the places of an event's cells -/
def places (x : Ev) : List Int :=
  if (touched x).1 < 1 ∨ 8 < (touched x).1 ∨ x.at_ < 0 ∨ 131072 < x.at_ then []
  else (x.at_ / 8 * 8) :: (if x.at_ / 8 * 8 + 8 < x.at_ + (touched x).1 then [x.at_ / 8 * 8 + 8] else [])
/-- the cells of the first k events, as a map has them, and in order -/
def evM (x : Ev) (M : List Cl) : List Cl := if x.pk = 0 then putsM (touched x).2.1 (touched x).2.2 (places x) M else M
def evL (x : Ev) (L : List Cl) : List Cl := if x.pk = 0 then putsL (touched x).2.1 (touched x).2.2 (places x) L else L
def cellsM (l : Array Ev) : Nat → List Cl
  | 0 => []
  | k + 1 => evM l[k]! (cellsM l k)
def cellsL (l : Array Ev) : Nat → List Cl
  | 0 => []
  | k + 1 => evL l[k]! (cellsL l k)
theorem cells_both (l : Array Ev) : ∀ k, Srt (cellsL l k) ∧ (cellsL l k).Perm (cellsM l k)
  | 0 => ⟨List.Pairwise.nil, List.Perm.refl _⟩
  | k + 1 => by
    have h := cells_both l k
    unfold cellsL cellsM evL evM
    split
    · exact puts_both _ _ _ h.1 h.2
    · exact h
theorem places_len (x : Ev) : (places x).length ≤ 2 := by
  unfold places
  split
  · simp
  · split <;> simp
theorem putsL_len (l w : Bool) : ∀ (ps : List Int) (L : List Cl), (putsL l w ps L).length ≤ L.length + ps.length
  | [], L => Nat.le_refl _
  | p :: ps, L => by
    have h1 := putL_len l w p L
    have h2 := putsL_len l w ps (putL l w p L)
    simp only [putsL, List.foldl_cons, List.length_cons] at h2 ⊢
    omega
theorem cellsL_len (l : Array Ev) : ∀ k, (cellsL l k).length ≤ 2 * k
  | 0 => Nat.le_refl _
  | k + 1 => by
    have h := cellsL_len l k
    unfold cellsL evL
    split
    · have h1 := putsL_len (touched l[k]!).2.1 (touched l[k]!).2.2 (places l[k]!) (cellsL l k)
      have h2 := places_len l[k]!
      omega
    · omega
end Go.Proofs.YtppdhckcempmnaaGreatDoor.Ce

/- The program's map of cells: what stands at a place; a new cell laid in. -/
namespace Go.Proofs.YtppdhckcempmnaaGreatDoor.Ce
open Go Go.RowKit Go.Maps Go.WideElems Go.MapKept
open Go.ChangeMaps (setBlock)
/-- the entries of places and the blocks of their cells -/
def mkI : List (Int × Nat) → Nat → List MapEntry
  | [], _ => []
  | e :: l, i => ⟨.int .i64 e.1, .pointer (some ⟨e.2, 0, none⟩), i⟩ :: mkI l (i + 1)
theorem mkI_len : ∀ l i, (mkI l i).length = l.length
  | [], _ => rfl
  | _ :: l, i => by simp only [mkI, List.length_cons, mkI_len l]
theorem mkI_snoc : ∀ (l : List (Int × Nat)) (i : Nat) (e : Int × Nat), mkI (l ++ [e]) i = mkI l i ++ [⟨.int .i64 e.1, .pointer (some ⟨e.2, 0, none⟩), i + l.length⟩]
  | [], _, _ => rfl
  | x :: l, i, e => by
    simp only [mkI, List.cons_append, mkI_snoc l (i + 1) e, List.length_cons]
    rw [show i + 1 + l.length = i + (l.length + 1) by omega]
theorem push_mkI (l : List (Int × Nat)) (p : Int) (b : Nat) : (mkI l 0).toArray.push ⟨.int .i64 p, .pointer (some ⟨b, 0, none⟩), l.length⟩ = (mkI (l ++ [(p, b)]) 0).toArray := by
  rw [mkI_snoc]
  simp
theorem mem_mkI : ∀ {l : List (Int × Nat)} {i : Nat} {x : MapEntry}, x ∈ mkI l i → ∃ j e, l[j]? = some e ∧ x = ⟨.int .i64 e.1, .pointer (some ⟨e.2, 0, none⟩), i + j⟩
  | [], _, _, h => by cases h
  | e :: l, i, x, h => by
    rcases List.mem_cons.1 h with rfl | h
    · exact ⟨0, e, rfl, rfl⟩
    · obtain ⟨j, e', h1, h2⟩ := mem_mkI h
      exact ⟨j + 1, e', by simpa using h1, by rw [h2]; congr 1; omega⟩
theorem mkI_mem : ∀ {l : List (Int × Nat)} {i j : Nat} {e : Int × Nat}, l[j]? = some e → (⟨.int .i64 e.1, .pointer (some ⟨e.2, 0, none⟩), i + j⟩ : MapEntry) ∈ mkI l i
  | [], _, _, _, h => by simp at h
  | x :: l, i, 0, e, h => by simp at h; subst h; exact List.mem_cons_self ..
  | x :: l, i, j + 1, e, h => by
    have := mkI_mem (l := l) (i := i + 1) (j := j) (e := e) (by simpa using h)
    rw [show i + (j + 1) = i + 1 + j by omega]
    exact List.mem_cons_of_mem _ this
/-- places that may be -/
def InP (p : Int) : Prop := 0 ≤ p ∧ p ≤ 262144
theorem map_key : ∀ (l : List (Int × Nat)) (i : Nat), (mkI l i).map (·.key) = l.map fun e => Value.int .i64 e.1
  | [], _ => rfl
  | e :: l, i => by simp only [mkI, List.map_cons, map_key l]
theorem map_born : ∀ (l : List (Int × Nat)) (i : Nat), (mkI l i).map (·.born) = List.range' i l.length
  | [], _ => rfl
  | e :: l, i => by simp only [mkI, List.map_cons, map_born l, List.length_cons, List.range'_succ]
theorem stampedI (l : List (Int × Nat)) (h : (l.map (·.1)).Nodup) : Stamped (mkI l 0).toArray l.length := by
  refine ⟨fun x hx => ?_, ?_, ?_⟩
  · obtain ⟨j, e, h1, rfl⟩ := mem_mkI (by simpa using hx)
    have := (List.getElem?_eq_some_iff.1 h1).1
    simpa using this
  · have e : (mkI l 0).toArray.toList.map (·.born) = List.range' 0 l.length := by rw [← map_born]
    rw [e]
    exact List.nodup_range'
  · have e : (mkI l 0).toArray.toList.map (·.key) = l.map fun e => Value.int .i64 e.1 := by rw [← map_key l 0]
    rw [e]
    have : (l.map fun e => Value.int .i64 e.1) = (l.map (·.1)).map (Value.int .i64) := by simp [List.map_map, Function.comp_def]
    rw [this]
    unfold List.Nodup
    rw [List.pairwise_map]
    exact h.imp fun hab hc => hab (by simpa using hc)
/-- an element reads as nothing of note -/
def R0 : Value → Option (DataW Unit × List MemPlace) := fun _ => some (.nil, [])
theorem keyOf_p {p : Int} (h : InP p) : keyOf Tryz.prog 3 (.int .i64 p) = some (.int .i64 p) := by
  have hw : (Lit.int .i64 p).wf = true := by
    have e1 : IntKind.i64.min = -9223372036854775808 := by decide
    simp [Lit.wf]
    rw [e1]
    have := h.1
    have := h.2
    omega
  simp [keyOf, Tryz.underlying3, mapKey, hw]
theorem fitI (l : List (Int × Nat)) (h : (l.map (·.1)).Nodup) (hp : ∀ e ∈ l, InP e.1) (hn : l.length ≤ 100000) : Fit Tryz.prog 3 R0 (mkI l 0).toArray l.length := by
  refine ⟨by simp only [List.size_toArray, mkI_len]; exact Nat.le_trans hn (by decide), stampedI l h, fun x hx => ?_⟩
  obtain ⟨j, e, h1, rfl⟩ := mem_mkI (by simpa using hx)
  exact ⟨_, rd_mk (keyOf_p (hp e (List.mem_of_getElem? h1))) rfl⟩
theorem keyed3 : Keyed Tryz.prog 3 := int_keyed Tryz.underlying3
/-- a place is looked up -/
theorem look_I (w : World) (mb : Nat) (l : List (Int × Nat)) (hm : w.heap[mb]? = some (.map (mkI l 0).toArray l.length)) (h : (l.map (·.1)).Nodup) (hp : ∀ e ∈ l, InP e.1) (hn : l.length ≤ 100000) {p : Int} (hip : InP p) (c : Bool) :
    ((Instr.lookup 68 (.map (some mb)) (.int .i64 p) c).run Tryz.prog w = .ok (if c then .tuple #[.pointer none, .bool false] else .pointer none) w ∧ ∀ e ∈ l, e.1 ≠ p) ∨
    ∃ (j b : Nat), l[j]? = some (p, b) ∧ (Instr.lookup 68 (.map (some mb)) (.int .i64 p) c).run Tryz.prog w = .ok (if c then .tuple #[.pointer (some ⟨b, 0, none⟩), .bool true] else .pointer (some ⟨b, 0, none⟩)) w := by
  rcases fit_look c keyed3 Tryz.underlying68 (z := .pointer none) (by kernel_rfl) hm (fitI l h hp hn) (keyOf_p hip) with ⟨h1, h2, _⟩ | ⟨e0, y, h1, h2, h3, _⟩
  · refine .inl ⟨h1, fun e he hep => ?_⟩
    obtain ⟨j, hj⟩ := List.getElem?_of_mem he
    exact h2 _ (by simpa using mkI_mem (i := 0) hj) (by rw [hep])
  · obtain ⟨j, e, h4, rfl⟩ := mem_mkI (by simpa using h1)
    have h5 : e.1 = p := by simpa using h2
    refine .inr ⟨j, e.2, ?_, h3⟩
    rw [h4, ← h5]
/-- a new place is laid in -/
theorem insert_I (w : World) (mb : Nat) (l : List (Int × Nat)) (hm : w.heap[mb]? = some (.map (mkI l 0).toArray l.length)) (h : (l.map (·.1)).Nodup) (hp : ∀ e ∈ l, InP e.1) (hn : l.length ≤ 100000) {p : Int} (hip : InP p) (hnew : ∀ e ∈ l, e.1 ≠ p) (b : Nat) :
    (Instr.mapUpdate 68 (.map (some mb)) (.int .i64 p) (.pointer (some ⟨b, 0, none⟩))).run Tryz.prog w = .ok () (setBlock w mb (.map (mkI (l ++ [(p, b)]) 0).toArray (l.length + 1))) := by
  have F := fitI l h hp hn
  rcases keyed3.find w (keyOf_p hip) _ F.keys with ⟨h1, h2⟩ | ⟨j, e0, h1, h2, h3⟩
  · rw [← push_mkI]
    simp [Instr.mapUpdate, run_underlying Tryz.underlying68, MapKept.run_getObj_map hm, keyed3.check w false (keyOf_p hip), h1, MapKept.run_setObj_map _ hm, Result.andThen, setBlock]
  · have h4 := List.mem_of_getElem? h2
    obtain ⟨i, e, h5, rfl⟩ := mem_mkI (by simpa using h4)
    exact absurd (by simpa using h3) (hnew e (List.mem_of_getElem? h5))
theorem rg_keys : ∀ (l : List (Int × Nat)) (i : Nat), (∀ e ∈ l, InP e.1) → ((mkI l i).map (rg Tryz.prog 3 R0)).map (fun p => intOf p.1) = l.map (·.1)
  | [], _, _ => rfl
  | e :: l, i, h => by
    have h0 : rg Tryz.prog 3 R0 ⟨.int .i64 e.1, .pointer (some ⟨e.2, 0, none⟩), i⟩ = (.int .i64 e.1, .nil) := rg_of (rd_mk (yv := (.nil, [])) (keyOf_p (h e (List.mem_cons_self ..))) rfl)
    simp only [mkI, List.map_cons, h0]
    rw [rg_keys l (i + 1) (fun x hx => h x (List.mem_cons_of_mem _ hx))]
    rfl
/-- the keys of the map -/
theorem owns_I (w : World) (mb : Nat) (l : List (Int × Nat)) (hm : w.heap[mb]? = some (.map (mkI l 0).toArray l.length)) (h : (l.map (·.1)).Nodup) (hp : ∀ e ∈ l, InP e.1) (hn : l.length ≤ 100000) :
    ∃ D : DataW Unit, w.ownsMap Tryz.prog 3 R0 mb l.length D ∧ Maps.size D = l.length ∧ (intKeys D).Perm (l.map (·.1)) := by
  have hperm := Go.WideShapes.sorted_perm ((mkI l 0).toArray.toList.map (rg Tryz.prog 3 R0))
  refine ⟨_, ⟨_, _, hm, fitI l h hp hn, by simp [mkI_len], rfl⟩, ?_, ?_⟩
  · show List.length _ = _
    rw [hperm.length_eq]
    simp [mkI_len]
  · refine (hperm.map (fun p : Lit × DataW Unit => intOf p.1)).trans ?_
    rw [rg_keys l 0 hp]
end Go.Proofs.YtppdhckcempmnaaGreatDoor.Ce

/- Events as they stand in memory; whether they are few. -/
namespace Go.Proofs.YtppdhckcempmnaaGreatDoor.Ce
open Go Go.RowKit Go.Lib
/-- the twelve cells of an event -/
def Ev.cs (x : Ev) : List Value := [.int .i64 x.pk, .int .i64 x.act, .int .i64 x.pn, .int .i64 x.ak, .int .i64 x.at_, .int .i64 x.n, .int .u64 x.v, .int .u64 x.w, .slice x.bo x.bl x.bc, .int .u64 x.av, .bool x.done, .slice x.ao x.al x.ac]
def Ev.val (x : Ev) : Value := .agg #[.int .i64 x.pk, .int .i64 x.act, .int .i64 x.pn, .int .i64 x.ak, .int .i64 x.at_, .int .i64 x.n, .int .u64 x.v, .int .u64 x.w, .slice x.bo x.bl x.bc, .int .u64 x.av, .bool x.done, .slice x.ao x.al x.ac]
structure At12 (w : World) (b o : Nat) (x : Ev) : Prop where
  c0 : w.cell? ⟨b, o, none⟩ = some (.int .i64 x.pk)
  c1 : w.cell? ⟨b, o + 1, none⟩ = some (.int .i64 x.act)
  c2 : w.cell? ⟨b, o + 2, none⟩ = some (.int .i64 x.pn)
  c3 : w.cell? ⟨b, o + 3, none⟩ = some (.int .i64 x.ak)
  c4 : w.cell? ⟨b, o + 4, none⟩ = some (.int .i64 x.at_)
  c5 : w.cell? ⟨b, o + 5, none⟩ = some (.int .i64 x.n)
  c6 : w.cell? ⟨b, o + 6, none⟩ = some (.int .u64 x.v)
  c7 : w.cell? ⟨b, o + 7, none⟩ = some (.int .u64 x.w)
  c8 : w.cell? ⟨b, o + 8, none⟩ = some (.slice x.bo x.bl x.bc)
  c9 : w.cell? ⟨b, o + 9, none⟩ = some (.int .u64 x.av)
  c10 : w.cell? ⟨b, o + 10, none⟩ = some (.bool x.done)
  c11 : w.cell? ⟨b, o + 11, none⟩ = some (.slice x.ao x.al x.ac)
theorem At12.below {w w' : World} {b o : Nat} {x : Ev} (h : At12 w b o x) (hl : b < w.heap.size) (hb : Below w.heap.size w w') : At12 w' b o x :=
  ⟨(hb.cell (p := ⟨b, o, none⟩) hl).trans h.c0, (hb.cell (p := ⟨b, o + 1, none⟩) hl).trans h.c1, (hb.cell (p := ⟨b, o + 2, none⟩) hl).trans h.c2, (hb.cell (p := ⟨b, o + 3, none⟩) hl).trans h.c3,
   (hb.cell (p := ⟨b, o + 4, none⟩) hl).trans h.c4, (hb.cell (p := ⟨b, o + 5, none⟩) hl).trans h.c5, (hb.cell (p := ⟨b, o + 6, none⟩) hl).trans h.c6, (hb.cell (p := ⟨b, o + 7, none⟩) hl).trans h.c7,
   (hb.cell (p := ⟨b, o + 8, none⟩) hl).trans h.c8, (hb.cell (p := ⟨b, o + 9, none⟩) hl).trans h.c9, (hb.cell (p := ⟨b, o + 10, none⟩) hl).trans h.c10, (hb.cell (p := ⟨b, o + 11, none⟩) hl).trans h.c11⟩
/-- a trace that came in -/
def Tr (w : World) (al : Option Addr) (l : Array Ev) : Prop := ∀ j, j < l.size → ∃ b o, al = some ⟨b, o, none⟩ ∧ b < w.heap.size ∧ At12 w b (o + j * 12) l[j]!
theorem Tr.below {w w' : World} {al : Option Addr} {l : Array Ev} (h : Tr w al l) (hb : Below w.heap.size w w') : Tr w' al l := fun j hj => by
  obtain ⟨b, o, e, hl, ha⟩ := h j hj
  exact ⟨b, o, e, Nat.lt_of_lt_of_le hl hb.size, ha.below hl hb⟩
def Short (x : Ev) : Prop := x.bl ≤ 60 ∧ x.al ≤ 60
instance (x : Ev) : Decidable (Short x) := by unfold Short; infer_instance
/-- few events, with few bytes -/
def Few (l : Array Ev) : Prop := l.size ≤ 600 ∧ ∀ j, j < l.size → Short l[j]!
instance (l : Array Ev) : Decidable (Few l) := by unfold Few; infer_instance
set_option maxRecDepth 1000000 in
set_option maxHeartbeats 3200000 in
theorem few_any (al : Option Addr) (cl : Nat) (l : Array Ev) (w : World) (hT : Tr w al l) (hn : l.size ≤ 9223372036854775807) :
    Calls Tryz.prog 5 #[.slice al l.size cl] w fun e w' => e = .returned (.bool (decide (Few l))) ∧ Below w.heap.size w w' := by
  have HT := Lib.hid hT
  clear hT
  go_enter Tryz.func5, Tryz.ntmps5
  go_wp2
  go_loopw [7] (fun t wr => ∃ k : Nat, k ≤ l.size ∧ t = .int .i64 k ∧ Hid (Below w.heap.size w wr) ∧ Hid (∀ j, j < k → Short l[j]!)) (fun t _ => l.size - (RowKit.intOf t).toNat)
  case atStart => exact ⟨0, Nat.zero_le _, rfl, Lib.hid (Below.refl _ _), Lib.hid (fun j hj => by omega)⟩
  case round =>
    obtain ⟨k, hk, rfl, hB, hS⟩ := hrel
    by_cases hlt : k < l.size
    · obtain ⟨b, o, rfl, hb, hA⟩ := (HT.out.below hB.out) k hlt
      obtain ⟨c0, c1, c2, c3, c4, c5, c6, c7, c8, c9, c10, c11⟩ := hA
      obtain ⟨x, hx⟩ : ∃ x, l[k]! = x := ⟨_, rfl⟩
      rw [hx] at c0 c1 c2 c3 c4 c5 c6 c7 c8 c9 c10 c11
      have h1 : (k : Int) < (l.size : Int) := by omega
      have h2 : (0 : Int) ≤ (k : Int) := by omega
      have HX := Lib.hid hx
      clear hx
      by_cases hs1 : (x.bl : Int) > 60
      · have hnf : decide (Few l) = false := by
          simp only [decide_eq_false_iff_not]
          intro hf
          have := (hf.2 k hlt).1
          rw [HX.out] at this
          omega
        go_wp2
        go_ret
        exact ⟨by first | rfl | (rw [hnf]; rfl), hB.out.alloc hB.out.size _⟩
      · by_cases hs2 : (x.al : Int) > 60
        · have hnf : decide (Few l) = false := by
            simp only [decide_eq_false_iff_not]
            intro hf
            have := (hf.2 k hlt).2
            rw [HX.out] at this
            omega
          go_wp2
          go_ret
          exact ⟨by first | rfl | (rw [hnf]; rfl), hB.out.alloc hB.out.size _⟩
        · go_wp2
          go_roundw
          case rel =>
            refine ⟨k + 1, by omega, by go_num, Lib.hid (hB.out.alloc hB.out.size _), Lib.hid (fun j hj => ?_)⟩
            rcases Nat.lt_or_ge j k with h | h
            · exact hS.out j h
            · obtain rfl : j = k := by omega
              rw [HX.out]
              exact ⟨by omega, by omega⟩
          case measure => simp [RowKit.intOf]; omega
    · obtain rfl : k = l.size := by omega
      go_wp2
      go_ret
      refine ⟨?_, hB.out⟩
      congr 2
      by_cases h6 : l.size ≤ 600
      · rw [decide_eq_true (show Few l from ⟨h6, hS.out⟩)]; simp; omega
      · rw [decide_eq_false (show ¬ Few l from fun hf => h6 hf.1)]; simp; omega
end Go.Proofs.YtppdhckcempmnaaGreatDoor.Ce

/- What an access touches: both tell the same. -/
namespace Go.Proofs.YtppdhckcempmnaaGreatDoor.Ce
open Go Go.RowKit Go.Lib
theorem ak_cases (z : Int) : z = 0 ∨ z = 1 ∨ z = 2 ∨ z = 3 ∨ z = 4 ∨ z = 5 ∨ z = 6 ∨ ((z == 0) = false ∧ (z == 1) = false ∧ (z == 2) = false ∧ (z == 3) = false ∧ (z == 4) = false ∧ (z == 5) = false ∧ (z == 6) = false) := by
  by_cases h0 : z = 0
  · exact .inl h0
  by_cases h1 : z = 1
  · exact .inr (.inl h1)
  by_cases h2 : z = 2
  · exact .inr (.inr (.inl h2))
  by_cases h3 : z = 3
  · exact .inr (.inr (.inr (.inl h3)))
  by_cases h4 : z = 4
  · exact .inr (.inr (.inr (.inr (.inl h4))))
  by_cases h5 : z = 5
  · exact .inr (.inr (.inr (.inr (.inr (.inl h5)))))
  by_cases h6 : z = 6
  · exact .inr (.inr (.inr (.inr (.inr (.inr (.inl h6))))))
  simp [h0, h1, h2, h3, h4, h5, h6]
def Touches (x : Ev) (w : World) (e : Ending) (w' : World) : Prop := e = .returned (.tuple #[.int .i64 (touched x).1, .bool (touched x).2.1, .bool (touched x).2.2]) ∧ Below w.heap.size w w'
set_option maxRecDepth 1000000 in
set_option maxHeartbeats 6400000 in
theorem touched_any (x : Ev) (w : World) : Calls Tryz.prog 47 #[x.val] w (Touches x w) := by
  obtain ⟨pk, act, pn, ak, at_, n, v, ww, bo, bl, bc, av, done, ao, al, ac⟩ := x
  unfold Ev.val
  dsimp only
  go_enter Tryz.func47, Tryz.ntmps47
  rcases ak_cases ak with rfl | rfl | rfl | rfl | rfl | rfl | rfl | ⟨h0, h1, h2, h3, h4, h5, h6⟩
  all_goals go_wp2
  all_goals try go_region
  all_goals (try go_wp2)
  all_goals go_ret3
  all_goals
    refine ⟨?_, ?_⟩
    · first | (simp [touched, *]; done) | (simp only [beq_eq_false_iff_ne, ne_eq] at h0 h1 h2 h3 h4 h5 h6; simp [touched, *])
    · repeat first | exact Below.refl _ _ | refine Below.drew ?_ | refine Below.alloc ?_ (by simp) _
set_option maxRecDepth 1000000 in
set_option maxHeartbeats 6400000 in
theorem bytes_any (x : Ev) (w : World) : Calls Tryz.prog 25 #[x.val] w (Touches x w) := by
  obtain ⟨pk, act, pn, ak, at_, n, v, ww, bo, bl, bc, av, done, ao, al, ac⟩ := x
  unfold Ev.val
  dsimp only
  go_enter Tryz.func25, Tryz.ntmps25
  rcases ak_cases ak with rfl | rfl | rfl | rfl | rfl | rfl | rfl | ⟨h0, h1, h2, h3, h4, h5, h6⟩
  all_goals go_wp2
  all_goals try go_region
  all_goals (try go_wp2)
  all_goals go_ret3
  all_goals
    refine ⟨?_, ?_⟩
    · first | (simp [touched, *]; done) | (simp only [beq_eq_false_iff_ne, ne_eq] at h0 h1 h2 h3 h4 h5 h6; simp [touched, *])
    · repeat first | exact Below.refl _ _ | refine Below.drew ?_ | refine Below.alloc ?_ (by simp) _
end Go.Proofs.YtppdhckcempmnaaGreatDoor.Ce
