/- AEOps3, AEBlind: in one text. -/
import Derived.Test.YtpbhfckefmboaaaGreatDoorGp30
import Derived.Laws.AppendOwn
import Derived.Laws.MakeOwn
set_option linter.unusedVariables false
set_option linter.unusedSimpArgs false
set_option linter.unusedSectionVars false
namespace Go.AE
open Go.RowKit
variable {E : Env} {P : Program} {w0 : World} {σ : Sg} {m : Mem} {w : World}
theorem elemSize_spec (hE : EOK E P) {t e : TypeId} {te : TI} (h : elemSize E t = some (e, te)) : P.underlying t = some (.slice e) ∧ E.types.get e = some te := by
  unfold elemSize at h
  split at h
  · rename_i e' _ _ _ hti
    obtain ⟨hu, _⟩ := hE.types t _ hti
    split at h
    · rename_i ti hte
      cases h
      exact ⟨hu, hte⟩
    · cases h
  · cases h
theorem firstCells_sound (h : MR E w0 σ m w) {size n : Nat} {v v' : Value} {l : List Value} (hf : firstCells size n v m = some l) (hv : VR σ v v') (hn : ∀ a k c, v = .slice a k c → n ≤ k) :
    ∃ l' : List Value, (∀ wx : World, wx.heap = w.heap → (Builtin.firstCells size n v').run P wx = .ok l'.toArray wx) ∧ VRL σ l l' := by
  unfold firstCells at hf
  split at hf
  · rename_i a len cap
    split at hf
    · rename_i cells k e hrow
      split at hf
      · rename_i hle
        have hle' := Nat.le_of_ble_eq_true hle
        cases hv with
        | refl hs => simp [AE.simple] at hs
        | slice hx hc ho =>
          rename_i i o c' x
          simp only at hle'
          obtain ⟨l', hrun, hl, hlen⟩ := run_cells (P := P) h hrow hx hle' hf
          refine ⟨l', fun wx hwx => ?_, hl⟩
          have hm : MR E w0 σ m ⟨wx.heap, w.tape, w.drawn, w.os, w.output⟩ := by
            have : (⟨wx.heap, w.tape, w.drawn, w.os, w.output⟩ : World) = w := by rw [hwx]
            rw [this]; exact h
          have hcs : ∀ j v, l'[j]? = some v → wx.cell? ((⟨x.b, x.sh + o, none⟩ : Addr).add j) = some v := by
            intro j v hj
            rw [addr_add]
            obtain ⟨C, fz, hB, hob, hf', hN, hn', _, hc⟩ := h.row hrow hx
            have hjl : j < n * size := by
              have := (List.getElem?_eq_some_iff.1 hj).1; omega
            have hj2 : (C.toList.drop (x.sh + o)).take (n * size) = l' := by
              have h0 := run_loadCells_list (P := P) (w := w) ⟨x.b, x.sh + o, none⟩ ((C.toList.drop (x.sh + o)).take (n * size)) (fun j v hj => by
                rw [addr_add, cell?_of hob]
                rw [List.getElem?_take, List.getElem?_drop] at hj
                split at hj
                · simpa using hj
                · cases hj)
              have hl0 : ((C.toList.drop (x.sh + o)).take (n * size)).length = n * size := by simp; omega
              rw [hl0, hrun] at h0
              injection h0 with h1 _
              have := congrArg Array.toList h1
              simpa using this.symm
            have hob' : wx.heap[x.b]? = some (.cells C e fz) := by rw [hwx]; exact hob
            rw [cell?_of hob']
            rw [← hj2, List.getElem?_take, if_pos hjl, List.getElem?_drop] at hj
            simpa using hj
          have := run_loadCells_list (P := P) (w := wx) ⟨x.b, x.sh + o, none⟩ l' hcs
          rw [hlen] at this
          simpa [Builtin.firstCells] using this
      · cases hf
    · cases hf
  · cases hf
    obtain rfl := hv.simple_inv rfl
    exact ⟨[], fun wx _ => by simp [Builtin.firstCells], VRL.nil σ⟩
  · rename_i s
    cases hf
    obtain rfl := hv.simple_inv rfl
    refine ⟨_, fun wx _ => ?_, VRL.simple (fun v hv => by
      obtain ⟨b, _, rfl⟩ := List.mem_map.1 hv; rfl)⟩
    simp only [Builtin.firstCells, Sem.run_pure]
    congr 1
    apply Array.ext'
    simp [ByteArray.extract, ByteArray.copySlice, List.map_take]
  · cases hf
theorem lenOf_sound {v v' : Value} {n : Nat} (h : lenOf v = some n) (hv : VR σ v v') (wx : World) : (Builtin.lenOf v').run P wx = .ok n wx := by
  unfold lenOf at h
  split at h
  · cases h
    cases hv with
    | refl hs => rfl
    | slice _ _ _ => rfl
  · cases h
    obtain rfl := hv.simple_inv rfl
    rfl
  · cases h
theorem VR.slice_inv {a : Option Addr} {n c : Nat} {v : Value} (h : VR σ (.slice a n c) v) : (a = none ∧ v = .slice none n c) ∨ ∃ i o x c', a = some ⟨i, o, none⟩ ∧ v = .slice (some ⟨x.b, x.sh + o, none⟩) n c' ∧ σ i = some x ∧ (c < OPEN → c' = c) ∧ (OPEN ≤ c → n ≤ c' ∧ o + c' * x.s ≤ x.N) := by
  cases h with
  | refl hs =>
    cases a with
    | none => exact .inl ⟨rfl, rfl⟩
    | some a => simp [AE.simple] at hs
  | slice hx hc ho => exact .inr ⟨_, _, _, _, rfl, rfl, hx, hc, ho⟩
theorem zeroCells_size (z : Array Value) (n : Nat) : (Builtin.zeroCells z n).size = n * z.size := by simp [Builtin.zeroCells]
/-- 'append' where the elements fit -/
theorem run_append_fits' {t ty e : TypeId} {i : TypeInfo} (ht : P.underlying t = some (.slice e)) (hi : P.info? e = some i)
    {a : Addr} {sLen sCap n : Nat} {x : Value} {new : List Value} {w w' : World} (hl : (Builtin.lenOf x).run P w = .ok n w) (hx : (Builtin.firstCells i.size n x).run P w = .ok new.toArray w) (hroom : sLen + n ≤ sCap)
    (hst : (storeCells (a.add (sLen * i.size)) new).run P w = .ok () w') : (Builtin.append_ #[t, t] ty #[.slice (some a) sLen sCap, x]).run P w = .ok (.slice (some a) (sLen + n) sCap) w' := by
  simp [Builtin.append_, run_underlying ht, sizeOf, typeInfo, hi, hl, hroom, hx, hst]
theorem run_append_none {t ty e : TypeId} {i : TypeInfo} (ht : P.underlying t = some (.slice e)) (hi : P.info? e = some i)
    {cap : Nat} {x : Value} {new : List Value} {w : World} (hl : (Builtin.lenOf x).run P w = .ok 0 w) (hx : (Builtin.firstCells i.size 0 x).run P w = .ok new.toArray w) :
    (Builtin.append_ #[t, t] ty #[.slice none 0 cap, x]).run P w = .ok (.slice none 0 cap) w := by
  simp [Builtin.append_, run_underlying ht, sizeOf, typeInfo, hi, hl, hx]
theorem run_append_grows' {t ty e : TypeId} {i : TypeInfo} {z : Value} (ht : P.underlying t = some (.slice e)) (hi : P.info? e = some i) (hz : i.zero = some z)
    {base : Option Addr} {sLen sCap n : Nat} {x : Value} {old new : List Value} {w : World} (hl : (Builtin.lenOf x).run P w = .ok n w)
    (hx : (Builtin.firstCells i.size n x).run P w.drew = .ok new.toArray w.drew) (ho : (Builtin.firstCells i.size sLen (.slice base sLen sCap)).run P w.drew = .ok old.toArray w.drew)
    (hroom : sCap < sLen + n) (h63 : sLen + n ≤ 1000000) (hby : i.bytes ≤ 100000) :
    (Builtin.append_ #[t, t] ty #[.slice base sLen sCap, x]).run P w = .ok (.slice (some ⟨w.heap.size, 0, none⟩) (sLen + n) (grownCap w (sLen + n) sCap e))
      (w.drew.alloc (.cells ((old ++ new).toArray ++ Builtin.zeroCells z.cells (grownCap w (sLen + n) sCap e - (sLen + n))) e)) := by
  have hn : ¬ (sLen + n ≤ sCap) := by omega
  have h63' : ¬ (9223372036854775807 < ((sLen : Int) + (n : Int))) := by omega
  have h48 : Builtin.nextslicecap (sLen + n) sCap * i.bytes ≤ 281474976710656 := growslice_fits hroom (by
    have : (sLen + n) * i.bytes ≤ 1000000 * 100000 := Nat.mul_le_mul h63 hby
    omega)
  have h48' : ¬ (281474976710656 < Builtin.nextslicecap (sLen + n) sCap * i.bytes) := by omega
  simp [Builtin.append_, run_underlying ht, sizeOf, typeInfo, zeroValue, hi, hz, hl, hn, h63', h48', Question.forced, hx, ho, Go.newRow, grownCap]
  congr 2
  apply Array.ext'
  simp [List.append_assoc]
theorem VRL.length {l l' : List Value} (h : VRL σ l l') : l'.length = l.length := h.1.symm
/-- the block that 'append' makes -/
theorem OR.grown {e : TypeId} {te : TI} (hte : E.types.get e = some te) {l l' rest : List Value} (hl : VRL σ l l') (b N : Nat) (hN : N = l.length + rest.length) (fz : Nat × Nat := (0, 0)) (hf : NF fz (l'.length + rest.length) := by exact NF.zero _) :
    OR E σ ⟨b, 0, N, te.size⟩ (AE.newRow e l) (.cells (l'.toArray ++ rest.toArray) e fz) :=
  ⟨rfl, by simpa using hf, by simp [hl.1, hN], by simp [hN], ⟨te, hte, rfl⟩, fun j hj => by
    obtain ⟨v', h1, h2⟩ := hl.getElem? (List.getElem?_eq_getElem hj)
    refine ⟨_, v', by rw [T.get_ofList]; exact List.getElem?_eq_getElem hj, ?_, h2⟩
    have hj' : j < l'.length := by rw [← hl.1]; exact hj
    simp only [Nat.zero_add, List.append_toArray, List.getElem?_toArray]
    rw [List.getElem?_append_left hj']; exact h1⟩
/-- a block that nothing abstract stands for is given a number -/
theorem MR.adopt {m1 : Mem} {w1 : World} (h : MR E w0 σ m1 w1) {id : Nat} (hid : σ id = none) {n' : Nat} (hn : m1.n ≤ n') (hidn : id < n') {o : AObj} {ob : Obj} {x : Inf} (hB : w0.heap.size ≤ x.b) (hl : ¬ LiveB σ m1 x.b)
    (hob : w1.heap[x.b]? = some ob) (hor : OR E σ x o ob) : MR E w0 (fun j => if j = id then some x else σ j) ⟨n', m1.t.set id o⟩ w1 := by
  have hext : Ext σ (fun j => if j = id then some x else σ j) := fun i y hy => by
    have : i ≠ id := fun e => by rw [e, hid] at hy; cases hy
    simp [this, hy]
  refine ⟨h.below, ?_, ?_, ?_⟩
  · intro j p hj hp
    by_cases e : id = j
    · subst e
      rw [T.get_set_same] at hj
      cases hj
      exact ⟨x, ob, by simp, hB, hob, hor.mono hext⟩
    · rw [T.get_set_ne _ _ e] at hj
      obtain ⟨z, oz, hz, hBz, hoz, horz⟩ := h.obj j p hj hp
      exact ⟨z, oz, hext _ _ hz, hBz, hoz, horz.mono hext⟩
  · intro j k p q z z' hj hp hk hq hz hz' e
    by_cases e1 : id = j <;> by_cases e2 : id = k
    · omega
    · subst e1
      rw [T.get_set_ne _ _ e2] at hk
      have e2' : k ≠ id := fun h => e2 h.symm
      simp only [e2', if_false, if_true, Option.some.injEq] at hz hz'
      subst hz
      exact absurd ⟨k, q, z', hk, hq, hz', e.symm⟩ hl
    · subst e2
      rw [T.get_set_ne _ _ e1] at hj
      have e1' : j ≠ id := fun h => e1 h.symm
      simp only [e1', if_false, if_true, Option.some.injEq] at hz hz'
      subst hz'
      exact absurd ⟨j, p, z, hj, hp, hz, e⟩ hl
    · rw [T.get_set_ne _ _ e1] at hj
      rw [T.get_set_ne _ _ e2] at hk
      have e1' : j ≠ id := fun h => e1 h.symm
      have e2' : k ≠ id := fun h => e2 h.symm
      simp only [e1', e2', if_false] at hz hz'
      exact h.inj j k p q z z' hj hp hk hq hz hz' e
  · intro i hi
    have h1 : i ≠ id := by have : n' ≤ i := hi; omega
    simp only [h1, if_false]
    exact h.fresh i (Nat.le_trans hn hi)
theorem MR.offstage {w' : World} (h : MR E w0 σ m w) {b : Nat} (hB : w0.heap.size ≤ b) (hl : ¬ LiveB σ m b) (hsz : w'.heap.size = w.heap.size) (hoth : ∀ k, k ≠ b → w'.heap[k]? = w.heap[k]?)
    (hos : w'.os = w.os) (ht : w'.tape = w.tape) (hout : w'.output = w.output) : MR E w0 σ m w' :=
  ⟨h.below.trans ⟨hos, ht, hout, by omega, fun k hk => hoth k (by omega)⟩, fun i o hi ho => by
    obtain ⟨x, ob, hx, hBx, hob, hor⟩ := h.obj i o hi ho
    exact ⟨x, ob, hx, hBx, by rw [hoth x.b (fun e => hl ⟨i, o, x, hi, ho, hx, e⟩)]; exact hob, hor⟩, h.inj, h.fresh⟩
theorem LiveB.dead {i : Nat} {b : Nat} (h : LiveB σ ⟨m.n, m.t.set i .dead⟩ b) : LiveB σ m b := by
  obtain ⟨j, o, x, hj, ho, hx, hb⟩ := h
  by_cases e : i = j
  · subst e; rw [T.get_set_same] at hj; cases hj; cases ho
  · rw [T.get_set_ne _ _ e] at hj; exact ⟨j, o, x, hj, ho, hx, hb⟩
theorem append_sound (hE : EOK E P) (h : MR E w0 σ m w) {t ty : TypeId} {s x s' x' : Value} {out : Out} (ha : append E t s x m = some out) (hs : VR σ s s') (hx : VR σ x x') :
    OutOK E P w0 σ m w (do pure (.value (← Builtin.append_ #[t, t] ty #[s', x']))) out := by
  unfold append at ha
  split at ha
  · rename_i e te base len cap n hel hlen
    obtain ⟨ht, hte⟩ := elemSize_spec hE hel
    obtain ⟨_, i, z, hi, hsz, hby, hz, hzc, hzl, _, _⟩ := hE.types e te hte
    split at ha
    · rename_i new old hnew hold hk1 hk2
      have hb1 := Nat.le_of_ble_eq_true hk1
      have hb2 := Nat.le_of_ble_eq_true hk2
      have hnx : ∀ a k c, x = .slice a k c → n ≤ k := by
        intro a k c hxe
        subst hxe
        simp [lenOf] at hlen
        omega
      obtain ⟨new', hrn, hvn⟩ := firstCells_sound (P := P) h hnew hx hnx
      obtain ⟨old', hro, hvo⟩ := firstCells_sound (P := P) h hold hs (fun a k c he => by injection he with _ e2 _; omega)
      have hln := lenOf_sound (P := P) hlen hx w
      rw [← hsz] at hrn hro
      have hzs : z.cells.size = te.size := by rw [← hzl, ← hzc]; simp
      -- what growing leaves
      have grow : (old ++ new).length = (len + n) * te.size → ∀ (base' : Option Addr) (c : Nat) (m1 : Mem), s' = .slice base' len c → c < len + n → MR E w0 σ m1 w → m1.n = m.n → (∀ b, LiveB σ m1 b → LiveB σ m b) →
          OutOK E P w0 σ m w (do pure (.value (← Builtin.append_ #[t, t] ty #[s', x']))) (.eff (.slice (some ⟨m.n, 0, none⟩) (len + n) OPEN) ⟨m.n + 1, m1.t.set m.n (newRow e (old ++ new))⟩) := by
        intro hlenon base' c m1 hs' hc h1 hn1 hlv
        subst hs'
        have hrun := run_append_grows' (P := P) (ty := ty) ht hi hz (base := base') (sCap := c) hln (hrn w.drew rfl) (hro w.drew rfl) hc hb1 (by omega)
        have hN : len + n ≤ grownCap w (len + n) c e := grownCap_ge w (len + n) c e
        have hor := OR.grown (E := E) hte (hvo.append hvn) w.drew.heap.size _ (rest := (Builtin.zeroCells z.cells (grownCap w (len + n) c e - (len + n))).toList) rfl
        obtain ⟨hm', hf'⟩ := h1.drew.new (id := m.n) (h.fresh m.n (Nat.le_refl _)) (n' := m.n + 1) (by omega) (by omega) (x := ⟨w.drew.heap.size, 0, _, te.size⟩) rfl hor
        have hf' := hf' (by omega)
        have harr : (old' ++ new').toArray ++ (Builtin.zeroCells z.cells (grownCap w (len + n) c e - (len + n))).toList.toArray = (old' ++ new').toArray ++ Builtin.zeroCells z.cells (grownCap w (len + n) c e - (len + n)) := by simp
        rw [harr] at hm' hf'
        refine out_eff rfl hrun (.slice (x := ⟨w.drew.heap.size, 0, _, te.size⟩) (if_pos rfl) (fun hc => absurd hc (Nat.lt_irrefl _)) (fun _ => ⟨hN, ?_⟩)) hm'
          ⟨hf'.ext, hf'.size, fun b hb hl => hf'.frame b hb (fun hl1 => hl (hlv b hl1)), fun b hb => (hf'.grow b hb).imp (hlv b) id, by show m.n ≤ m.n + 1; omega, fun i hi => hf'.old i (by omega)⟩
        simp only [Array.length_toList, zeroCells_size, hzs, hlenon, Nat.zero_add]
        rw [← Nat.add_mul]
        apply Nat.mul_le_mul_right
        omega
      split at ha
      · -- a known capacity
        rename_i hlenon hop
        have hlenon := Nat.eq_of_beq_eq_true hlenon
        have hcap : cap < OPEN := by
          rcases Nat.lt_or_ge cap OPEN with h1 | h1
          · exact h1
          · rw [Nat.ble_eq_true_of_le h1] at hop; cases hop
        split at ha
        · rename_i hroom
          have hroom' := Nat.le_of_ble_eq_true hroom
          split at ha
          · -- nil
            split at ha
            · rename_i hz0
              cases ha
              obtain rfl : len = 0 := by omega
              obtain rfl : n = 0 := by omega
              obtain rfl := hs.simple_inv rfl
              exact out_val rfl (run_append_none ht hi hln (hrn w rfl)) (.refl rfl)
            · cases ha
          · rename_i a
            split at ha
            · rename_i m' hst
              cases ha
              rcases hs.slice_inv with ⟨h1, _⟩ | ⟨j, o, y, c', h1, rfl, hy, hc1, hc2⟩
              · cases h1
              · cases h1
                obtain rfl := hc1 hcap
                have hp : VR σ (.pointer (some ⟨j, o + len * te.size, none⟩)) (.pointer (some ⟨y.b, y.sh + (o + len * te.size), none⟩)) := .ptr hy
                obtain ⟨a', w', ha', _, hrun, hm', hf'⟩ := storeL_sound (P := P) h hst hp hvn
                cases ha'
                refine out_eff rfl (run_append_fits' ht hi hln (hrn w rfl) hroom' (w' := w') ?_) (.slice hy (fun _ => rfl) (fun ho => by omega)) hm' hf'
                rw [addr_add, hsz, Nat.add_assoc]; exact hrun
            · cases ha
        · rename_i hroom
          have hroom' : cap < len + n := by
            rcases Nat.lt_or_ge cap (len + n) with h1 | h1
            · exact h1
            · rw [Nat.ble_eq_true_of_le h1] at hroom; cases hroom
          split at ha
          · cases ha
            obtain ⟨base', hs'⟩ : ∃ base', s' = .slice base' len cap := by
              rcases hs.slice_inv with ⟨_, rfl⟩ | ⟨j, o, y, c', _, rfl, hy, hc1, _⟩
              · exact ⟨_, rfl⟩
              · obtain rfl := hc1 hcap; exact ⟨_, rfl⟩
            exact grow hlenon base' cap m hs' hroom' h rfl (fun _ hb => hb)
          · cases ha
      · -- an unknown capacity
        rename_i hlenon hop
        have hlenon := Nat.eq_of_beq_eq_true hlenon
        have hcap : OPEN ≤ cap := Nat.le_of_ble_eq_true hop
        split at ha
        · cases ha
        rename_i a
        rcases hs.slice_inv with ⟨h1, _⟩ | ⟨j, o, y, c', h1, hs', hy, hc1, hc2⟩
        · cases h1
        cases h1
        obtain ⟨hc3, hc4⟩ := hc2 hcap
        split at ha
        · cases ha
          subst hs'
          have hnil : new' = [] := List.eq_nil_of_length_eq_zero (by rw [hvn.length]; rfl)
          subst hnil
          exact out_val rfl (run_append_fits' ht hi hln (hrn w rfl) (by omega) (w' := w) rfl) (.slice hy hc1 hc2)
        · split at ha
          · rename_i cells k e' hrow
            split at ha
            · rename_i hee hone
              obtain rfl := Nat.eq_of_beq_eq_true hee
              cases ha
              rcases Nat.lt_or_ge c' (len + n) with hlt | hge
              · exact grow hlenon _ c' _ hs' hlt (h.drop j) rfl (fun b hb => hb.dead)
              · -- there was room: the block goes on under a new number
                subst hs'
                obtain ⟨C, fz, hB, hob, hf, hN, hn, ⟨ti', hti', hys⟩, hc⟩ := h.row hrow hy
                obtain rfl : ti' = te := by rw [hte] at hti'; exact (Option.some.inj hti').symm
                have hol : old.length = len * ti'.size ∧ new.length = n * ti'.size := by
                  have h1 := hlenon
                  rw [List.length_append, Nat.add_mul] at h1
                  have h2 : old.length = len * ti'.size := by
                    unfold firstCells at hold
                    simp only [hrow] at hold
                    split at hold
                    · exact (T.getL_spec hold).1
                    · cases hold
                  omega
                have hfit : o + (len + n) * ti'.size ≤ y.N := by
                  have : (len + n) * ti'.size ≤ c' * ti'.size := Nat.mul_le_mul_right _ hge
                  rw [hys] at hc4; omega
                have hNl : new'.length = n * ti'.size := by rw [hvn.length, hol.2]
                obtain ⟨w', C', r1, r2, r3, r4, r5, r6, r7, r8, r9⟩ := run_storeCells (P := P) new' 0 w C (y.sh + o + len * ti'.size) hob hf (by rw [hNl]; rw [Nat.add_mul] at hfit; omega) (hvn.ones hone)
                have hnl : ¬ LiveB σ ⟨m.n, m.t.set j .dead⟩ y.b := by
                  rintro ⟨i', p, z', hi', hp, hz', hb⟩
                  by_cases e : j = i'
                  · subst e; rw [T.get_set_same] at hi'; cases hi'; cases hp
                  · rw [T.get_set_ne _ _ e] at hi'
                    exact e (h.inj j i' _ p y z' hrow rfl hi' hp hy hz' hb.symm)
                have hm1 : MR E w0 σ ⟨m.n, m.t.set j .dead⟩ w' := (h.drop j).offstage hB hnl r4 r5 r6 r7 r8
                have hor : OR E σ ⟨y.b, y.sh + o, y.N - o, ti'.size⟩ (AE.newRow e (old ++ new)) (.cells C' e fz) := by
                  refine ⟨rfl, by rw [r3]; exact hf, by rw [r3]; simp only; omega, by simp only; rw [hlenon]; omega, ⟨ti', hte, rfl⟩, fun q hq => ?_⟩
                  rw [T.get_ofList]
                  simp only
                  rw [r9, hNl]
                  rw [hlenon, Nat.add_mul] at hq
                  by_cases hqo : q < len * ti'.size
                  · rw [if_neg (by omega)]
                    rw [List.getElem?_append_left (by omega)]
                    have hq1 : q < old.length := by omega
                    unfold firstCells at hold
                    simp only [hrow] at hold
                    split at hold
                    · obtain ⟨_, hg⟩ := T.getL_spec hold
                      have hle' : o + len * ti'.size ≤ k := Nat.le_of_ble_eq_true (by assumption)
                      obtain ⟨u, u', hu, hu', hr⟩ := hc (o + q) (by omega)
                      rw [hg q (by omega)] at hu
                      exact ⟨u, u', hu, by rw [show y.sh + o + q = y.sh + (o + q) from by omega]; exact hu', hr⟩
                    · cases hold
                  · rw [if_pos (by omega)]
                    rw [List.getElem?_append_right (by omega)]
                    have hq1 : q - old.length < new.length := by omega
                    obtain ⟨v', hv1, hv2⟩ := hvn.getElem? (List.getElem?_eq_getElem hq1)
                    exact ⟨_, v', List.getElem?_eq_getElem hq1, by rw [← hv1]; congr 1; omega, hv2⟩
                have hm2 := hm1.adopt (id := m.n) (h.fresh m.n (Nat.le_refl _)) (n' := m.n + 1) (by show m.n ≤ m.n + 1; omega) (by omega) (x := ⟨y.b, y.sh + o, y.N - o, ti'.size⟩) hB hnl r2 hor
                have hrun := run_append_fits' (P := P) (ty := ty) (sCap := c') ht hi hln (hrn w rfl) hge (a := ⟨y.b, y.sh + o, none⟩) (w' := w') (by rw [addr_add, hsz]; exact r1)
                have hvr : VR (fun q => if q = m.n then some ⟨y.b, y.sh + o, y.N - o, ti'.size⟩ else σ q) (.slice (some ⟨m.n, 0, none⟩) (len + n) OPEN) (.slice (some ⟨y.b, y.sh + o + 0, none⟩) (len + n) c') :=
                  .slice (x := ⟨y.b, y.sh + o, y.N - o, ti'.size⟩) (if_pos rfl) (fun hc => absurd hc (Nat.lt_irrefl _)) (fun _ => ⟨hge, by rw [hys] at hc4; simp only; omega⟩)
                refine out_eff rfl hrun hvr hm2 ⟨fun q z' hq => ?_, by rw [r4]; exact Nat.le_refl _, fun b hb hl => r5 b (fun e => hl (e ▸ LiveB.of hrow rfl hy)), ?_, by show m.n ≤ m.n + 1; omega, fun i hi => if_neg (by omega)⟩
                · have : q ≠ m.n := fun e => by rw [e, h.fresh m.n (Nat.le_refl _)] at hq; cases hq
                  simp [this, hq]
                · rintro b ⟨q, p, z', hq, hp, hz', hb⟩
                  by_cases e : m.n = q
                  · subst e
                    simp only [if_true, Option.some.injEq] at hz'
                    subst hz'
                    have hlv : LiveB σ m y.b := LiveB.of (i := j) hrow rfl hy
                    simp only at hb
                    exact .inl (hb ▸ hlv)
                  · rw [T.get_set_ne _ _ e] at hq
                    have e' : q ≠ m.n := fun h => e h.symm
                    simp only [e', if_false] at hz'
                    exact .inl (LiveB.dead (m := m) (i := j) ⟨q, p, z', hq, hp, hz', hb⟩)
            · cases ha
          · cases ha
      · cases ha
    · cases ha
  · cases ha
end Go.AE
namespace Go.AE
open Go.RowKit
variable {E : Env} {P : Program} {w0 : World} {σ : Sg} {m : Mem} {w : World}
theorem getL_bads (K : Nat) : ∀ q o, o + q ≤ K → (T.ofList (List.replicate K bad)).getL q o = some (List.replicate q bad) := by
  intro q
  induction q with
  | zero => intro o _; rfl
  | succ q ih =>
    intro o h
    have h1 : (T.ofList (List.replicate K bad)).get o = some bad := by
      rw [T.get_ofList, List.getElem?_replicate, if_pos (by omega)]
    simp only [T.getL, h1, ih (o + 1) (by omega)]
    rfl
theorem appendB_sound (hE : EOK E P) (h : MR E w0 σ m w) {t ty : TypeId} {s x s' x' : Value} {out : Out} (ha : appendB E t s x m = some out) (hs : VR σ s s') (hx : VR σ x x') :
    OutOK E P w0 σ m w (do pure (.value (← Builtin.append_ #[t, t] ty #[s', x']))) out := by
  unfold appendB at ha
  split at ha
  · rename_i a len cap
    split at ha
    · rename_i cells e' hrow
      split at ha
      · rename_i e te n hel hlen
        split at ha
        · rename_i new hnew hk1 hk2 hcap hee
          split at ha
          · rename_i k hone hsz1 hlen2
            cases ha
            obtain rfl := Nat.eq_of_beq_eq_true hee
            have hs0 := hs
            rcases hs.slice_inv with ⟨h1, _⟩ | ⟨i, o, y, c', h1, rfl, hy, _, hc2⟩
            · cases h1
            · cases h1
              simp only at hrow
              obtain ⟨hcl, hco⟩ := hc2 (Nat.le_of_ble_eq_true hcap)
              obtain ⟨C, fz, hB, hob, hf, hN, _, ⟨ti, hti, hys⟩, _⟩ := h.row hrow hy
              obtain ⟨_, hte⟩ := elemSize_spec hE hel
              obtain rfl : ti = te := by rw [hti] at hte; exact Option.some.inj hte
              have hsize : 1 ≤ ti.size := Nat.le_of_ble_eq_true hsz1
              have hK : o + (len + 1) * ti.size ≤ y.N := by
                have : (len + 1) * ti.size ≤ c' * ti.size := Nat.mul_le_mul_right _ hcl
                rw [hys] at hco
                omega
              obtain ⟨K, hKe⟩ : ∃ K, o + (len + 1) * ti.size = K := ⟨_, rfl⟩
              rw [hKe] at hK
              obtain ⟨m2, hm2⟩ : ∃ m2 : Mem, (⟨m.n, m.t.set i (.row (T.ofList (List.replicate K bad)) K e)⟩ : Mem) = m2 := ⟨_, rfl⟩
              have g1 : m2.t.get i = some (.row (T.ofList (List.replicate K bad)) K e) := by rw [← hm2]; exact T.get_set_same _ _ _
              have g2 : ∀ q, q ≠ i → m2.t.get q = m.t.get q := fun q hq => by rw [← hm2]; exact T.get_set_ne _ _ (Ne.symm hq)
              have gn : m2.n = m.n := by rw [← hm2]
              have hlv : ∀ b, LiveB σ m2 b → LiveB σ m b := by
                rintro b ⟨q, ob, z, hq, hl, hz, hb⟩
                by_cases hqi : q = i
                · subst hqi; exact ⟨q, _, z, hrow, rfl, hz, hb⟩
                · exact ⟨q, ob, z, by rw [← g2 q hqi]; exact hq, hl, hz, hb⟩
              have hM2 : MR E w0 σ m2 w := by
                refine ⟨h.below, fun q ob hq hl => ?_, fun q j o1 o2 x1 x2 hq hl1 hj hl2 hx1 hx2 he => ?_, fun q hq => h.fresh q (by omega)⟩
                · by_cases hqi : q = i
                  · subst hqi
                    rw [g1] at hq
                    cases hq
                    refine ⟨y, _, hy, hB, hob, rfl, hf, hN, hK, ⟨ti, hti, hys⟩, fun j hj => ?_⟩
                    have hj2 : y.sh + j < C.size := by omega
                    exact ⟨bad, C[y.sh + j], by rw [T.get_ofList, List.getElem?_replicate, if_pos hj], Array.getElem?_eq_getElem hj2, .any _⟩
                  · exact h.obj q ob (by rw [← g2 q hqi]; exact hq) hl
                · have key : ∀ {q ob}, m2.t.get q = some ob → ob.live = true → ∃ ob', m.t.get q = some ob' ∧ ob'.live = true := fun {q ob} hq hl => by
                    by_cases hqi : q = i
                    · subst hqi; exact ⟨_, hrow, rfl⟩
                    · exact ⟨ob, by rw [← g2 q hqi]; exact hq, hl⟩
                  obtain ⟨p1, k1, k2⟩ := key hq hl1
                  obtain ⟨p2, k3, k4⟩ := key hj hl2
                  exact h.inj q j p1 p2 x1 x2 k1 k2 k3 k4 hx1 hx2 he
              have hnew2 : firstCells ti.size (k + 1) x m2 = some new := by
                rw [← hnew]
                unfold firstCells
                split
                · rename_i b c d
                  by_cases hbi : b.block = i
                  · exfalso
                    unfold firstCells at hnew
                    simp only [hbi, hrow] at hnew
                    split at hnew
                    · rename_i hle
                      have hle := Nat.le_of_ble_eq_true hle
                      have : 1 ≤ (k + 1) * ti.size := Nat.le_trans hsize (Nat.le_mul_of_pos_left _ (by omega))
                      exact absurd (Nat.le_trans this (Nat.le_trans (Nat.le_add_left _ _) hle)) (by omega)
                    · cases hnew
                  · rw [g2 _ hbi]
                · rfl
                · rfl
                · rfl
              have hold2 : firstCells ti.size (len + 1) (.slice (some ⟨i, o, none⟩) (len + 1) cap) m2 = some (List.replicate ((len + 1) * ti.size) bad) := by
                unfold firstCells
                simp only [g1, hKe, Nat.ble_eq_true_of_le (Nat.le_refl K)]
                exact getL_bads K _ _ (by omega)
              have hlen3 : Nat.beq (List.replicate ((len + 1) * ti.size) bad ++ new).length ((len + 1 + (k + 1)) * ti.size) = true := by
                have := Nat.eq_of_beq_eq_true hlen2
                rw [List.length_append, List.length_replicate, this, ← Nat.add_mul]
                exact Nat.beq_refl _
              have hnn : ∃ u l, new = u :: l := by
                have := Nat.eq_of_beq_eq_true hlen2
                have h2 : 1 ≤ (k + 1) * ti.size := Nat.le_trans hsize (Nat.le_mul_of_pos_left _ (by omega))
                cases new with
                | nil => simp at this; omega
                | cons u l => exact ⟨u, l, rfl⟩
              have ha2 : append E t (.slice (some ⟨i, o, none⟩) (len + 1) cap) x m2 = some (.eff (.slice (some ⟨m.n, 0, none⟩) (len + 1 + (k + 1)) OPEN) ⟨m.n + 1, (m2.t.set i .dead).set m.n (newRow e (List.replicate ((len + 1) * ti.size) bad ++ new))⟩) := by
                obtain ⟨u, l, rfl⟩ := hnn
                unfold append
                simp only [hel, hlen, hnew2, hold2, hk1, hk2, hlen3, hcap, g1, Nat.beq_refl, hone, gn]
              obtain ⟨nx, v', w', σ', q1, q2, q3, hm', hf'⟩ := append_sound (P := P) (ty := ty) hE hM2 ha2 hs0 hx
              have hres : ∀ q ob, ((m.t.set i .dead).set m.n (AObj.row .nil 0 e)).get q = some ob → ob.live = true → ∃ ob', ((m2.t.set i .dead).set m.n (newRow e (List.replicate ((len + 1) * ti.size) bad ++ new))).get q = some ob' ∧ ob'.live = true ∧ ∀ (τ : Sg) (z : Inf) (wo : Obj), OR E τ z ob' wo → OR E τ z ob wo := by
                intro q ob hq hl
                by_cases hqn : m.n = q
                · subst hqn
                  rw [T.get_set_same] at hq
                  cases hq
                  refine ⟨_, T.get_set_same _ _ _, rfl, fun τ z wo hor => ?_⟩
                  unfold newRow at hor
                  cases wo with
                  | cells C e2 fz2 =>
                    obtain ⟨a1, a2, a3, a4, a5, _⟩ := hor
                    exact ⟨a1, a2, a3, Nat.zero_le _, a5, fun j hj => absurd hj (Nat.not_lt_zero _)⟩
                  | _ => exact hor.elim
                · rw [T.get_set_ne _ _ hqn] at hq ⊢
                  by_cases hqi : i = q
                  · subst hqi
                    rw [T.get_set_same] at hq
                    cases hq
                    cases hl
                  · rw [T.get_set_ne _ _ hqi] at hq ⊢
                    exact ⟨ob, by rw [g2 q (Ne.symm hqi)]; exact hq, hl, fun _ _ _ h => h⟩
              refine ⟨nx, v', w', σ', q1, q2, q3, ⟨hm'.below, fun q ob hq hl => ?_, fun q j o1 o2 x1 x2 hq hl1 hj hl2 hx1 hx2 he => ?_, fun q hq => hm'.fresh q hq⟩,
                ⟨hf'.ext, hf'.size, fun b hb hl => hf'.frame b hb (fun h2 => hl (hlv b h2)), fun b hb => ?_, by have := hf'.n; rw [gn] at this; exact this, fun q hq => hf'.old q (by rw [gn]; exact hq)⟩⟩
              · obtain ⟨ob', k1, k2, k3⟩ := hres q ob hq hl
                obtain ⟨z, wo, z1, z2, z3, z4⟩ := hm'.obj q ob' k1 k2
                exact ⟨z, wo, z1, z2, z3, k3 σ' z wo z4⟩
              · obtain ⟨p1, k1, k2, _⟩ := hres q o1 hq hl1
                obtain ⟨p2, k3, k4, _⟩ := hres j o2 hj hl2
                exact hm'.inj q j p1 p2 x1 x2 k1 k2 k3 k4 hx1 hx2 he
              · obtain ⟨q, ob, z, hq, hl, hz, hb⟩ := hb
                obtain ⟨p1, k1, k2, _⟩ := hres q ob hq hl
                exact (hf'.grow b ⟨q, p1, z, k1, k2, hz, hb⟩).imp (hlv b) id
          · cases ha
        · cases ha
      · cases ha
    · exact append_sound (ty := ty) hE h ha hs hx
  · exact append_sound (ty := ty) hE h ha hs hx
end Go.AE
