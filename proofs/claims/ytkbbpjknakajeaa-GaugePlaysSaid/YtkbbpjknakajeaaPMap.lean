/- The map of a set of counters: looking up a name, laying in a new one. -/
import Derived.Test.YtkbbpjknakajeaaGRows
import Derived.Test.YtkbbpjknakajeaaGMany0
namespace Go.Proofs.Ytkbbpjknakajeaa
open Go Go.AE Go.RowKit
/-- the entries of names and the blocks of their counters -/
def mkL : List (ByteArray × Nat) → Nat → List MapEntry
  | [], _ => []
  | e :: l, i => ⟨.string e.1, .pointer (some ⟨e.2, 0, none⟩), i⟩ :: mkL l (i + 1)
theorem mkL_len : ∀ l i, (mkL l i).length = l.length
  | [], _ => rfl
  | _ :: l, i => by simp only [mkL, List.length_cons, mkL_len l]
theorem mkL_get : ∀ (l : List (ByteArray × Nat)) (i j : Nat) (e : ByteArray × Nat), l[j]? = some e → (mkL l i)[j]? = some ⟨.string e.1, .pointer (some ⟨e.2, 0, none⟩), i + j⟩
  | [], _, _, _, h => by simp at h
  | x :: l, i, 0, e, h => by simp at h; subst h; rfl
  | x :: l, i, j + 1, e, h => by
    have := mkL_get l (i + 1) j e (by simpa using h)
    simp only [mkL, List.getElem?_cons_succ]
    rw [this]
    congr 2
    omega
/-- the same, the blocks by numbers -/
def absL : List (ByteArray × Nat) → Nat → List MapEntry
  | [], _ => []
  | e :: l, i => ⟨.string e.1, .pointer (some ⟨i + 1, 0, none⟩), i⟩ :: absL l (i + 1)
theorem absL_len : ∀ l i, (absL l i).length = l.length
  | [], _ => rfl
  | _ :: l, i => by simp only [absL, List.length_cons, absL_len l]
theorem absL_get : ∀ (l : List (ByteArray × Nat)) (i j : Nat) (e : ByteArray × Nat), l[j]? = some e → (absL l i)[j]? = some ⟨.string e.1, .pointer (some ⟨i + j + 1, 0, none⟩), i + j⟩
  | [], _, _, _, h => by simp at h
  | x :: l, i, 0, e, h => by simp at h; subst h; rfl
  | x :: l, i, j + 1, e, h => by
    have := absL_get l (i + 1) j e (by simpa using h)
    simp only [absL, List.getElem?_cons_succ]
    rw [this, show i + 1 + j = i + (j + 1) by omega]
/-- where a name stands -/
def fnd (s : ByteArray) : List (ByteArray × Nat) → Nat → Option Nat
  | [], _ => none
  | e :: l, i => if s.data.toList = e.1.data.toList then some i else fnd s l (i + 1)
noncomputable section
def sgP (mb : Nat) (l : List (ByteArray × Nat)) : Sg := fun j => if j = 0 then some ⟨mb, 0, 0, 0⟩ else (l[j - 1]?).map fun e => ⟨e.2, 0, 0, 0⟩
def memP (l : List (ByteArray × Nat)) : Mem := ⟨l.length + 1, T.set .nil 0 (.map (absL l 0) l.length)⟩
theorem absL_inv : ∀ (l : List (ByteArray × Nat)) (i j : Nat) (a : MapEntry), (absL l i)[j]? = some a → ∃ e, l[j]? = some e := fun l i j a h => by
  have := (List.getElem?_eq_some_iff.1 h).1
  rw [absL_len] at this
  exact ⟨l[j], List.getElem?_eq_getElem this⟩
theorem mr_P (w : World) (mb : Nat) (l : List (ByteArray × Nat)) (hm : w.heap[mb]? = some (.map (mkL l 0).toArray l.length)) : MR EG { w with heap := #[] } (sgP mb l) (memP l) w := by
  have h0 : ∀ i o, (memP l).t.get i = some o → i = 0 ∧ o = .map (absL l 0) l.length := fun i o h => by
    unfold memP at h
    simp only at h
    by_cases e : 0 = i
    · subst e; rw [T.get_set_same] at h; cases h; exact ⟨rfl, rfl⟩
    · rw [T.get_set_ne _ _ e, T.get_nil] at h; cases h
  refine ⟨⟨rfl, rfl, rfl, Nat.zero_le _, fun k hk => absurd hk (Nat.not_lt_zero _)⟩, fun i o hi _ => ?_, fun i j o o' _ _ hi _ hj _ _ _ _ => by rw [(h0 i o hi).1, (h0 j o' hj).1], fun i hi => ?_⟩
  · obtain ⟨rfl, rfl⟩ := h0 i o hi
    refine ⟨⟨mb, 0, 0, 0⟩, _, if_pos rfl, Nat.zero_le _, hm, rfl, by rw [absL_len]; simp [mkL_len], fun i a b ha hb => ?_⟩
    obtain ⟨e, he⟩ := absL_inv l 0 i a ha
    have h1 := absL_get l 0 i e he
    have h2 := mkL_get l 0 i e he
    rw [h1] at ha
    cases ha
    have hb : (mkL l 0)[i]? = some b := by simpa using hb
    rw [h2] at hb
    cases hb
    refine ⟨rfl, .refl rfl, ?_⟩
    exact VR.ptr (σ := sgP mb l) (i := 0 + i + 1) (o := 0) (x := ⟨e.2, 0, 0, 0⟩) (by
      unfold sgP
      rw [if_neg (by omega), show 0 + i + 1 - 1 = i by omega, he]
      rfl)
  · unfold memP at hi
    simp only at hi
    unfold sgP
    rw [if_neg (by omega), List.getElem?_eq_none (by omega)]
    rfl
theorem map70 : (match mapType EG 70 with | some (_, tk, te) => (match tk.desc, zeroOf te with | .string, .pointer none => true | _, _ => false) | none => false) = true := by kernel_rfl
theorem findA_P (t : TypeId) (s : ByteArray) : ∀ (l : List (ByteArray × Nat)) (i : Nat), findA EG t .string (.string s) (absL l i) i = some ((fnd s l i).map fun q => (q, .pointer (some ⟨q + 1, 0, none⟩)))
  | [], _ => rfl
  | e :: l, i => by
    simp only [absL, findA, keyEq, sameNowA, fnd]
    by_cases h : s.data.toList = e.1.data.toList
    · rw [if_pos h, beq_iff_eq.2 h]; rfl
    · rw [if_neg h, beq_eq_false_iff_ne.2 h]
      exact findA_P t s l (i + 1)
theorem fnd_some {s : ByteArray} : ∀ {l : List (ByteArray × Nat)} {i q : Nat}, fnd s l i = some q → i ≤ q ∧ ∃ e, l[q - i]? = some e ∧ s = e.1
  | [], _, _, h => by cases h
  | e :: l, i, q, h => by
    simp only [fnd] at h
    split at h
    · rename_i he
      cases h
      refine ⟨Nat.le_refl _, e, by simp, ?_⟩
      obtain ⟨⟨a⟩⟩ := s
      obtain ⟨⟨⟨b⟩⟩, c⟩ := e
      simp only at he
      rw [he]
    · obtain ⟨h1, e', h2, h3⟩ := fnd_some h
      refine ⟨by omega, e', ?_, h3⟩
      rw [show q - i = (q - (i + 1)) + 1 by omega, List.getElem?_cons_succ]
      exact h2
/-- a name is looked up -/
theorem lookup_P (w : World) (mb : Nat) (l : List (ByteArray × Nat)) (hm : w.heap[mb]? = some (.map (mkL l 0).toArray l.length)) (s : ByteArray) :
    (∃ q e, l[q]? = some e ∧ e.1 = s ∧ fnd s l 0 = some q ∧ (Instr.lookup 70 (.map (some mb)) (.string s) true).run Try.prog w = .ok (.tuple #[.pointer (some ⟨e.2, 0, none⟩), .bool true]) w) ∨
    (fnd s l 0 = none ∧ (Instr.lookup 70 (.map (some mb)) (.string s) true).run Try.prog w = .ok (.tuple #[.pointer none, .bool false]) w) := by
  have hM := mr_P w mb l hm
  have hx : VR (sgP mb l) (.map (some 0)) (.map (some mb)) := VR.map (x := ⟨mb, 0, 0, 0⟩) (if_pos rfl)
  have hmt := map70
  split at hmt
  · rename_i kt tk te ht
    split at hmt
    · rename_i hd hz
      have hget : (memP l).t.get 0 = some (.map (absL l 0) l.length) := T.get_set_same T.nil 0 _
      have hla : lookupA EG 70 (.map (some 0)) (.string s) true (memP l) = some (match fnd s l 0 with
          | some q => .tuple #[.pointer (some ⟨q + 1, 0, none⟩), .bool true]
          | none => .tuple #[.pointer none, .bool false]) := by
        unfold lookupA
        simp only [ht, hd, keyOK, hget, findA_P kt s l 0, hz]
        cases fnd s l 0 <;> rfl
      obtain ⟨v', hr, hv⟩ := lookup_sound (P := Try.prog) (mkEnvL_ok _) hM hla hx (.refl rfl)
      cases hf : fnd s l 0 with
      | none =>
        rw [hf] at hv
        obtain ⟨⟨vs⟩, rfl, hvs⟩ := hv.tuple_inv
        match vs, hvs with
        | [], hvs => exact absurd hvs.1 (by simp)
        | [_], hvs => exact absurd hvs.1 (by simp)
        | _ :: _ :: _ :: _, hvs => exact absurd hvs.1 (by simp)
        | [a, b], hvs =>
          obtain rfl := hvs.head.simple_inv rfl
          obtain rfl := hvs.tail.head.simple_inv rfl
          exact .inr ⟨rfl, hr⟩
      | some q =>
        rw [hf] at hv
        obtain ⟨_, e, he, hs⟩ := fnd_some hf
        obtain ⟨⟨vs⟩, rfl, hvs⟩ := hv.tuple_inv
        match vs, hvs with
        | [], hvs => exact absurd hvs.1 (by simp)
        | [_], hvs => exact absurd hvs.1 (by simp)
        | _ :: _ :: _ :: _, hvs => exact absurd hvs.1 (by simp)
        | [a, b], hvs =>
          obtain rfl := hvs.tail.head.simple_inv rfl
          have ha := hvs.head
          cases ha with
          | refl hs => simp [simple] at hs
          | ptr hy =>
            rename_i y
            have : y = ⟨e.2, 0, 0, 0⟩ := by
              unfold sgP at hy
              rw [if_neg (by omega), show q + 1 - 1 = q - 0 by omega, he] at hy
              simpa using hy.symm
            subst this
            exact .inl ⟨q, e, by simpa using he, hs.symm, rfl, hr⟩
    · cases hmt
  · cases hmt
open Go.ChangeMaps (setBlock) in
/-- a new name is laid in -/
theorem insert_P (w : World) (mb : Nat) (l : List (ByteArray × Nat)) (hm : w.heap[mb]? = some (.map (mkL l 0).toArray l.length)) (s : ByteArray) (v : Value) (hn : fnd s l 0 = none) :
    (Instr.mapUpdate 70 (.map (some mb)) (.string s) v).run Try.prog w = .ok () (setBlock w mb (.map ((mkL l 0).toArray.push ⟨.string s, v, l.length⟩) (l.length + 1))) := by
  have hM := mr_P w mb l hm
  have hmt := map70
  split at hmt
  · rename_i kt tk te ht
    split at hmt
    · rename_i hd hz
      obtain ⟨e, hu, htk, hte⟩ := mapType_spec (mkEnvL_ok Try.prog) ht
      have hget : (memP l).t.get 0 = some (.map (absL l 0) l.length) := T.get_set_same T.nil 0 _
      have hck : (Instr.checkKey false 10000 kt (.string s)).run Try.prog w = .ok () w := keyOK_run (σ := sgP mb l) (mkEnvL_ok Try.prog) htk (k := .string s) (by rw [hd]; rfl) (.refl rfl) false 9998 w
      obtain ⟨es', hob, her⟩ := hM.mapObj hget (x := ⟨mb, 0, 0, 0⟩) (if_pos rfl)
      have he : es' = (mkL l 0).toArray := by
        simp only at hob
        rw [hm] at hob
        simpa using hob.symm
      subst he
      have hfa : findA EG kt tk.desc (.string s) (absL l 0) 0 = some none := by
        rw [hd, findA_P kt s l 0, hn]; rfl
      obtain ⟨r', h1, h2⟩ := findKey_sound (P := Try.prog) (mkEnvL_ok _) htk (.refl rfl) hfa her w
      cases r' with
      | some _ => exact h2.elim
      | none => simp only [Instr.mapUpdate, Sem.run_bind, run_underlying hu, Result.andThen_ok, Go.AE.run_getObj_map hm, hck, h1, Go.AE.run_setObj_map hm, setBlock]
    · cases hmt
  · cases hmt
theorem mkL_snoc : ∀ (l : List (ByteArray × Nat)) (i : Nat) (e : ByteArray × Nat), mkL (l ++ [e]) i = mkL l i ++ [⟨.string e.1, .pointer (some ⟨e.2, 0, none⟩), i + l.length⟩]
  | [], _, _ => rfl
  | x :: l, i, e => by
    simp only [mkL, List.cons_append, mkL_snoc l (i + 1) e, List.length_cons]
    rw [show i + 1 + l.length = i + (l.length + 1) by omega]
theorem push_mkL (l : List (ByteArray × Nat)) (s : ByteArray) (b : Nat) : (mkL l 0).toArray.push ⟨.string s, .pointer (some ⟨b, 0, none⟩), l.length⟩ = (mkL (l ++ [(s, b)]) 0).toArray := by
  rw [mkL_snoc]
  simp
end
end Go.Proofs.Ytkbbpjknakajeaa
