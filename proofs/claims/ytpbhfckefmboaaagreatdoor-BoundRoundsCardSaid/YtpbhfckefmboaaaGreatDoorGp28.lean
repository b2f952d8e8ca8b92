/- Memory: loads, stores and new blocks, in the abstract memory and in a world. -/
import Derived.Test.YtpbhfckefmboaaaGreatDoorGp27
import Derived.Laws.World
import Derived.Laws.Entries
set_option linter.unusedVariables false
set_option linter.unusedSimpArgs false
set_option linter.unusedSectionVars false
namespace Go.AE
open Go.RowKit
variable {E : Env} {P : Program}
/-! ### what the environment says of the program -/
/-- what a served function without a body does -/
def Xtn.impl : Xtn → Array Value → Sem Value
  | .load k => Extern.Atomic.loadT (.int k)
  | .store => Extern.Atomic.storeT
  | .add k => Extern.Atomic.update (Op.intArith .add) k true
  | .cas k => Extern.Atomic.casT (.int k)
  | .cmps => Extern.BytealgCompare.compare
  | .nop k => fun _ => do mark k; pure Extern.Race.none_
  | .markd k => Extern.Race.marked k
structure EOK (E : Env) (P : Program) : Prop where
  prog : E.P = P
  types : ∀ t ti, E.types.get t = some ti → P.underlying t = some ti.desc ∧ ∃ i z, P.info? t = some i ∧ i.size = ti.size ∧ i.bytes = ti.bytes ∧ i.zero = some z ∧ z.cells.toList = ti.zero ∧ ti.zero.length = ti.size ∧ (∀ v ∈ ti.zero, simple v = true) ∧ (agg? ti.desc = false → ti.zero = [z]) ∧ (agg? ti.desc = true → z = .agg ti.zero.toArray)
  funcs : ∀ f fn, E.funcs.get f = some fn → P.funcs[f]? = some fn ∧ (fn.name == "runtime.NumGoroutine") = false ∧ ∃ c, fn.body = some c
  exts : ∀ f x, E.exts.get f = some x → ∃ fn, P.funcs[f]? = some fn ∧ (fn.name == "runtime.NumGoroutine") = false ∧ fn.body = none ∧ Extern.findNext fn = none ∧ Extern.find fn = some x.impl
/-! ### the relation -/
/-- no cell of a row of 'n' cells is frozen -/
def NF (fz : Nat × Nat) (n : Nat) : Prop := fz.1 = fz.2 ∨ n ≤ fz.1
theorem NF.zero (n : Nat) : NF (0, 0) n := .inl rfl
theorem NF.not {fz : Nat × Nat} {n : Nat} (h : NF fz n) : ∀ o, o < n → ¬ (fz.1 ≤ o ∧ o < fz.2) := fun o ho => by
  rcases h with h | h <;> omega
def OR (E : Env) (σ : Sg) (x : Inf) : AObj → Obj → Prop
  | .row cells n e, .cells C e' fz => e' = e ∧ NF fz C.size ∧ x.sh + x.N = C.size ∧ n ≤ x.N ∧ (∃ ti, E.types.get e = some ti ∧ x.s = ti.size) ∧ ∀ j, j < n → ∃ v v', cells.get j = some v ∧ C[x.sh + j]? = some v' ∧ VR σ v v'
  | .sit s p, .stringIter s' p' => s' = s ∧ p' = p ∧ x.sh = 0
  | .mit none _ _ _, .mapIter none _ _ _ => x.sh = 0
  | .mit (some r) since seen last, .mapIter (some b) since' seen' last' => (∃ y, σ r = some y ∧ y.b = b) ∧ since' = since ∧ seen'.toList = seen ∧ last' = last ∧ x.sh = 0
  | .loop t N ps as body, .loop L => L.state = .ready ∧ L.pending = none ∧ L.params = ps ∧ L.assign = as ∧ L.body = body ∧ L.tmps.size = N ∧ ∀ i, VR σ (tv t i) (L.tmps.getD i undef)
  | .map es clock, .map es' clock' => clock' = clock ∧ es.length = es'.size ∧ ∀ (i : Nat) (a b : MapEntry), es[i]? = some a → es'[i]? = some b → a.born = b.born ∧ VR σ a.key b.key ∧ VR σ a.val b.val
  | _, _ => False
structure MR (E : Env) (w0 : World) (σ : Sg) (m : Mem) (w : World) : Prop where
  below : Below w0.heap.size w0 w
  obj : ∀ i o, m.t.get i = some o → o.live = true → ∃ x ob, σ i = some x ∧ w0.heap.size ≤ x.b ∧ w.heap[x.b]? = some ob ∧ OR E σ x o ob
  inj : ∀ i j o o' x y, m.t.get i = some o → o.live = true → m.t.get j = some o' → o'.live = true → σ i = some x → σ j = some y → x.b = y.b → i = j
  fresh : ∀ i, m.n ≤ i → σ i = none
/-- 'b' is the block of something that lives -/
def LiveB (σ : Sg) (m : Mem) (b : Nat) : Prop := ∃ i o x, m.t.get i = some o ∧ o.live = true ∧ σ i = some x ∧ x.b = b
/-- what a step leaves as it was -/
structure FG (σ : Sg) (m : Mem) (w : World) (σ' : Sg) (m' : Mem) (w' : World) : Prop where
  ext : Ext σ σ'
  size : w.heap.size ≤ w'.heap.size
  frame : ∀ b, b < w.heap.size → ¬ LiveB σ m b → w'.heap[b]? = w.heap[b]?
  grow : ∀ b, LiveB σ' m' b → LiveB σ m b ∨ w.heap.size ≤ b
  n : m.n ≤ m'.n
  old : ∀ i, i < m.n → σ' i = σ i
theorem FG.refl (σ : Sg) (m : Mem) (w : World) : FG σ m w σ m w := ⟨Ext.refl σ, Nat.le_refl _, fun _ _ _ => rfl, fun _ h => .inl h, Nat.le_refl _, fun _ _ => rfl⟩
theorem FG.trans {σ σ1 σ2 : Sg} {m m1 m2 : Mem} {w w1 w2 : World} (h : FG σ m w σ1 m1 w1) (k : FG σ1 m1 w1 σ2 m2 w2) : FG σ m w σ2 m2 w2 where
  ext := h.ext.trans k.ext
  size := Nat.le_trans h.size k.size
  frame := fun b hb hl => by
    have h1 := h.frame b hb hl
    rw [← h1]
    refine k.frame b (Nat.lt_of_lt_of_le hb h.size) (fun hl1 => ?_)
    rcases h.grow b hl1 with h2 | h2
    · exact hl h2
    · omega
  grow := fun b hl => by
    rcases k.grow b hl with h1 | h1
    · exact h.grow b h1
    · exact .inr (Nat.le_trans h.size h1)
  n := Nat.le_trans h.n k.n
  old := fun i hi => (k.old i (Nat.lt_of_lt_of_le hi h.n)).trans (h.old i hi)
theorem OR.mono {σ σ' : Sg} (he : Ext σ σ') {x : Inf} {o : AObj} {ob : Obj} (h : OR E σ x o ob) : OR E σ' x o ob := by
  cases o with
  | row cells n e =>
    cases ob with
    | cells C e' fz =>
      obtain ⟨h1, h2, h3, h4, h5, h6⟩ := h
      exact ⟨h1, h2, h3, h4, h5, fun j hj => let ⟨v, v', a, b, c⟩ := h6 j hj; ⟨v, v', a, b, c.mono he⟩⟩
    | _ => exact h.elim
  | map es clock =>
    cases ob with
    | map es' clock' =>
      obtain ⟨h1, h2, h3⟩ := h
      exact ⟨h1, h2, fun i a b ha hb => let ⟨p, q, r⟩ := h3 i a b ha hb; ⟨p, q.mono he, r.mono he⟩⟩
    | _ => exact h.elim
  | sit s p => cases ob <;> first | exact h | exact h.elim
  | mit r a b c =>
    cases r with
    | none => cases ob with
      | mapIter r' _ _ _ => cases r' <;> first | exact h | exact h.elim
      | _ => exact h.elim
    | some r => cases ob with
      | mapIter r' _ _ _ =>
        cases r' with
        | none => exact h.elim
        | some b' =>
          obtain ⟨⟨y, h1, h2⟩, h3⟩ := h
          exact ⟨⟨y, he _ _ h1, h2⟩, h3⟩
      | _ => exact h.elim
  | loop t N ps as body =>
    cases ob with
    | loop L =>
      obtain ⟨h1, h2, h3, h4, h5, h6, h7⟩ := h
      exact ⟨h1, h2, h3, h4, h5, h6, fun i => (h7 i).mono he⟩
    | _ => exact h.elim
  | dead => cases ob <;> exact h.elim
/-! ### what is at an address -/
theorem MR.row {w0 : World} {σ : Sg} {m : Mem} {w : World} (h : MR E w0 σ m w) {i : Nat} {cells : T Value} {n : Nat} {e : TypeId} (hr : m.t.get i = some (.row cells n e)) {x : Inf} (hx : σ i = some x) :
    ∃ C fz, w0.heap.size ≤ x.b ∧ w.heap[x.b]? = some (.cells C e fz) ∧ NF fz C.size ∧ x.sh + x.N = C.size ∧ n ≤ x.N ∧ (∃ ti, E.types.get e = some ti ∧ x.s = ti.size) ∧ ∀ j, j < n → ∃ v v', cells.get j = some v ∧ C[x.sh + j]? = some v' ∧ VR σ v v' := by
  obtain ⟨y, ob, hy, hB, hob, hor⟩ := h.obj i _ hr rfl
  obtain rfl : y = x := by rw [hx] at hy; exact (Option.some.inj hy).symm
  cases ob with
  | cells C e' fz =>
    obtain ⟨rfl, hf, h3, h4, h5, h6⟩ := hor
    exact ⟨C, fz, hB, hob, hf, h3, h4, h5, h6⟩
  | _ => exact hor.elim
theorem cell?_of {w : World} {b o : Nat} {C : Array Value} {e : TypeId} {fz : Nat × Nat} (h : w.heap[b]? = some (.cells C e fz)) : w.cell? ⟨b, o, none⟩ = C[o]? := by
  simp [World.cell?, h]
theorem frozen?_of {w : World} {b o : Nat} {C : Array Value} {e : TypeId} {fz : Nat × Nat} (h : w.heap[b]? = some (.cells C e fz)) (hf : NF fz C.size) (ho : o < C.size) : w.frozen? ⟨b, o, none⟩ = false := by
  simp only [World.frozen?, h]
  have := hf.not o ho
  rw [Bool.and_eq_false_iff]
  by_cases h1 : fz.1 ≤ o
  · exact .inr (by simpa using fun h2 => this ⟨h1, h2⟩)
  · exact .inl (by simpa using h1)
theorem addr_add (b o n : Nat) : (⟨b, o, none⟩ : Addr).add n = ⟨b, o + n, none⟩ := Addr.add_lit b o n
/-- a row of cells is read -/
theorem run_cells {w0 : World} {σ : Sg} {m : Mem} {w : World} (h : MR E w0 σ m w) {i : Nat} {cells : T Value} {n : Nat} {e : TypeId} (hr : m.t.get i = some (.row cells n e)) {x : Inf} (hx : σ i = some x)
    {k o : Nat} (hk : o + k ≤ n) {l : List Value} (hl : cells.getL k o = some l) :
    ∃ l', (loadCells ⟨x.b, x.sh + o, none⟩ k).run P w = .ok l'.toArray w ∧ VRL σ l l' ∧ l'.length = k := by
  obtain ⟨C, fz, hB, hob, hf, hN, hn, _, hc⟩ := h.row hr hx
  obtain ⟨h1, h2⟩ := T.getL_spec hl
  have hlen : ((C.toList.drop (x.sh + o)).take k).length = k := by simp; omega
  refine ⟨(C.toList.drop (x.sh + o)).take k, ?_, ?_, hlen⟩
  · have := run_loadCells_list (P := P) (w := w) ⟨x.b, x.sh + o, none⟩ ((C.toList.drop (x.sh + o)).take k) (fun j v hj => by
      rw [addr_add, cell?_of hob]
      rw [List.getElem?_take, List.getElem?_drop] at hj
      split at hj
      · simpa using hj
      · cases hj)
    rw [hlen] at this
    exact this
  · refine VRL.of_getElem? (by rw [h1, hlen]) (fun j v v' hv hv' => ?_)
    have hj : j < k := by
      have := (List.getElem?_eq_some_iff.1 hv).1; omega
    obtain ⟨u, u', hu, hu', hr⟩ := hc (o + j) (by omega)
    rw [h2 j hj, hv] at hu
    rw [List.getElem?_take, if_pos hj, List.getElem?_drop] at hv'
    have : C[x.sh + (o + j)]? = some v' := by rw [← hv', ← Array.getElem?_toList]; congr 1; omega
    rw [hu'] at this
    cases hu; cases this
    exact hr
theorem isAgg_run {t : TypeId} {d : TypeDesc} (h : P.underlying t = some d) (w : World) : (isAgg t).run P w = .ok (agg? d) w := by
  cases d <;> simp [isAgg, run_underlying h, agg?]
theorem sizeOf_run {t : TypeId} {i : TypeInfo} (h : P.info? t = some i) (w : World) : (sizeOf t).run P w = .ok i.size w := by
  simp [sizeOf, typeInfo, h]
theorem typeInfo_run {t : TypeId} {i : TypeInfo} (h : P.info? t = some i) (w : World) : (typeInfo t).run P w = .ok i w := by
  simp [typeInfo, h]
theorem zeroValue_run {t : TypeId} {i : TypeInfo} {z : Value} (h : P.info? t = some i) (hz : i.zero = some z) (w : World) : (zeroValue t).run P w = .ok z w := by
  simp [zeroValue, typeInfo, h, hz]
theorem loadAt_sound (hE : EOK E P) {w0 : World} {σ : Sg} {m : Mem} {w : World} (h : MR E w0 σ m w) {t : TypeId} {a : Addr} {v p' : Value} (hl : loadAt E t a m = some v)
    (hp : VR σ (.pointer (some a)) p') : ∃ v', (Instr.loadAt t p').run P w = .ok v' w ∧ VR σ v v' := by
  unfold loadAt at hl
  split at hl
  · rename_i ti cells n e hti hrow
    obtain ⟨hu, i, z, hi, hsz, _, _, _, _, _, _⟩ := hE.types t ti hti
    cases hp with
    | refl hs => simp [simple] at hs
    | ptr hx =>
      rename_i i' o x
      split at hl
      · rename_i hle
        have hle' := Nat.le_of_ble_eq_true hle
        split at hl
        · rename_i hag
          split at hl
          · rename_i l hgl
            cases hl
            obtain ⟨l', hrun, hv, _⟩ := run_cells (P := P) h hrow hx hle' hgl
            refine ⟨.agg l'.toArray, ?_, .agg_of (by simpa using hv)⟩
            simp [Instr.loadAt, Instr.sureAddr, loadVar, isAgg_run hu, hag, sizeOf_run hi, hsz, hrun]
          · cases hl
        · rename_i hag
          split at hl
          · rename_i hs1
            obtain ⟨C, fz, hB, hob, hf, hN, hn, _, hc⟩ := h.row hrow hx
            obtain ⟨u, u', hu1, hu2, hr⟩ := hc o (by simp only [hs1] at hle'; omega)
            simp only at hl
            rw [hl] at hu1
            cases hu1
            refine ⟨u', ?_, hr⟩
            simp [Instr.loadAt, Instr.sureAddr, loadVar, isAgg_run hu, hag, cell?_of hob, hu2]
          · cases hl
      · cases hl
  · cases hl
/-! ### stores -/
theorem World.set_eq {w : World} {b : Nat} {C : Array Value} {e : TypeId} {fz : Nat × Nat} (h : w.heap[b]? = some (.cells C e fz)) (o : Nat) (v : Value) :
    (w.setCell ⟨b, o, none⟩ v).heap[b]? = some (.cells (C.setIfInBounds o v) e fz) := by
  simp [World.setCell, Array.getElem?_modify, h]
theorem run_storeCells {b : Nat} {e : TypeId} {fz : Nat × Nat} : ∀ (l : List Value) (k : Nat) (w : World) (C : Array Value) (o : Nat), w.heap[b]? = some (.cells C e fz) → NF fz C.size → o + k + l.length ≤ C.size → (∀ v ∈ l, v.oneCell' = true) →
    ∃ w' C', (storeCells ⟨b, o, none⟩ l k).run P w = .ok () w' ∧ w'.heap[b]? = some (.cells C' e fz) ∧ C'.size = C.size ∧ w'.heap.size = w.heap.size ∧ (∀ i, i ≠ b → w'.heap[i]? = w.heap[i]?) ∧
      w'.os = w.os ∧ w'.tape = w.tape ∧ w'.output = w.output ∧ ∀ j, C'[j]? = if o + k ≤ j ∧ j < o + k + l.length then l[j - (o + k)]? else C[j]? := by
  intro l
  induction l with
  | nil => intro k w C o h _ _ _; exact ⟨w, C, rfl, h, rfl, rfl, fun _ _ => rfl, rfl, rfl, rfl, fun j => by rw [if_neg (by simp)]⟩
  | cons v l ih =>
    intro k w C o h hf hb ho
    simp only [List.length_cons] at hb
    obtain ⟨w', C', h1, h2, h3, h4, h5, h6, h7, h8, h9⟩ := ih (k + 1) (w.setCell ⟨b, o + k, none⟩ v) (C.setIfInBounds (o + k) v) o (World.set_eq h _ _) (by simpa using hf) (by simp; omega) (fun u hu => ho u (by simp [hu]))
    refine ⟨w', C', ?_, h2, by simpa using h3, by rw [h4]; exact World.size_setCell .., fun i hi => ?_, by rw [h6]; rfl, by rw [h7]; rfl, by rw [h8]; rfl, fun j => ?_⟩
    · have hc : w.cell? ⟨b, o + k, none⟩ = some C[o + k] := by rw [cell?_of h]; exact Array.getElem?_eq_getElem (by omega)
      simp only [storeCells]
      rw [Sem.run_bind, addr_add, run_store P w _ v .plain (ho v (by simp)), hc]
      simp only [frozen?_of h hf (show o + k < C.size by omega)]
      simpa using h1
    · rw [h5 i hi]; exact Below.heap_setCell _ _ _ _ hi
    · rw [h9 j]
      by_cases h10 : o + (k + 1) ≤ j ∧ j < o + (k + 1) + l.length
      · rw [if_pos h10, if_pos (by simp; omega)]
        rw [show j - (o + k) = (j - (o + (k + 1))) + 1 from by omega, List.getElem?_cons_succ]
      · rw [if_neg h10, Array.getElem?_setIfInBounds]
        by_cases h11 : o + k = j
        · rw [if_pos h11, if_pos (by omega), if_pos (by simp; omega)]
          simp [h11]
        · rw [if_neg h11, if_neg (by simp; omega)]
theorem allOne_spec {l : List Value} (h : allOne l = true) : ∀ v ∈ l, one v = true := by
  induction l with
  | nil => intro v hv; cases hv
  | cons x l ih =>
    intro v hv
    simp only [allOne] at h
    cases hx : one x with
    | false => rw [hx] at h; cases h
    | true =>
      rw [hx] at h
      cases hv with
      | head => exact hx
      | tail _ hm => exact ih h v hm
theorem VRL.ones {σ : Sg} {l l' : List Value} (h : VRL σ l l') (ho : allOne l = true) : ∀ v ∈ l', v.oneCell' = true := by
  intro v hv
  obtain ⟨i, hi, rfl⟩ := List.mem_iff_getElem.1 hv
  have hi' : i < l.length := by rw [h.1]; exact hi
  have := h.2 i hi'
  rw [getD_of hi', getD_of hi] at this
  exact this.one (allOne_spec ho _ (List.getElem_mem hi'))
theorem LiveB.of {σ : Sg} {m : Mem} {i : Nat} {o : AObj} {x : Inf} (h : m.t.get i = some o) (hl : o.live = true) (hx : σ i = some x) : LiveB σ m x.b := ⟨i, o, x, h, hl, hx, rfl⟩
/-- the cells of one row are turned: the abstract row 'o'' stands for the turned block -/
theorem MR.turn {w0 : World} {σ : Sg} {m : Mem} {w w' : World} (h : MR E w0 σ m w) {i : Nat} {o o' : AObj} {x : Inf} (hr : m.t.get i = some o) (hlo : o.live = true) (hx : σ i = some x) (_hlo' : o'.live = true)
    (hsz : w'.heap.size = w.heap.size) (hoth : ∀ k, k ≠ x.b → w'.heap[k]? = w.heap[k]?) (hos : w'.os = w.os) (ht : w'.tape = w.tape) (hout : w'.output = w.output) {ob : Obj} (hob : w'.heap[x.b]? = some ob)
    (hor : OR E σ x o' ob) : MR E w0 σ ⟨m.n, m.t.set i o'⟩ w' ∧ FG σ m w σ ⟨m.n, m.t.set i o'⟩ w' := by
  obtain ⟨y, ob0, hy, hB, hob0, _⟩ := h.obj i o hr hlo
  obtain rfl : y = x := by rw [hx] at hy; exact (Option.some.inj hy).symm
  have hlive : ∀ b, LiveB σ ⟨m.n, m.t.set i o'⟩ b → LiveB σ m b := by
    rintro b ⟨j, p, z, hj, hp, hz, rfl⟩
    by_cases e : i = j
    · subst e; exact ⟨i, o, z, hr, hlo, hz, rfl⟩
    · rw [T.get_set_ne _ _ e] at hj; exact ⟨j, p, z, hj, hp, hz, rfl⟩
  refine ⟨⟨?_, ?_, ?_, h.fresh⟩, ⟨Ext.refl σ, by omega, ?_, fun b hb => .inl (hlive b hb), Nat.le_refl _, fun _ _ => rfl⟩⟩
  · refine h.below.trans ⟨hos, ht, hout, by omega, fun k hk => hoth k (by omega)⟩
  · intro j p hj hp
    by_cases e : i = j
    · subst e
      rw [T.get_set_same] at hj
      cases hj
      exact ⟨y, ob, hx, hB, hob, hor⟩
    · rw [T.get_set_ne _ _ e] at hj
      obtain ⟨z, oz, hz, hBz, hoz, horz⟩ := h.obj j p hj hp
      refine ⟨z, oz, hz, hBz, ?_, horz⟩
      rw [hoth z.b (fun e2 => e (h.inj i j o p y z hr hlo hj hp hx hz e2.symm))]
      exact hoz
  · intro j k p q z z' hj hp hk hq hz hz' e
    have fix : ∀ {j p}, (m.t.set i o').get j = some p → p.live = true → ∃ p', m.t.get j = some p' ∧ p'.live = true := by
      intro j p hj hp
      by_cases e : i = j
      · subst e; exact ⟨o, hr, hlo⟩
      · rw [T.get_set_ne _ _ e] at hj; exact ⟨p, hj, hp⟩
    obtain ⟨p', h1, h2⟩ := fix hj hp
    obtain ⟨q', h3, h4⟩ := fix hk hq
    exact h.inj j k p' q' z z' h1 h2 h3 h4 hz hz' e
  · intro b hb hl
    refine hoth b (fun e => hl ?_)
    subst e
    exact LiveB.of hr hlo hx
theorem storeL_sound {w0 : World} {σ : Sg} {m m' : Mem} {w : World} (h : MR E w0 σ m w) {a : Addr} {l l' : List Value} (hs : storeL a l m = some m') {p' : Value} (hp : VR σ (.pointer (some a)) p') (hl : VRL σ l l') :
    ∃ a' w', p' = .pointer (some a') ∧ a'.spot = none ∧ (storeCells a' l').run P w = .ok () w' ∧ MR E w0 σ m' w' ∧ FG σ m w σ m' w' := by
  unfold storeL at hs
  split at hs
  · rename_i cells n e hrow
    split at hs
    · rename_i hle hone
      cases hs
      have hle' := Nat.le_of_ble_eq_true hle
      cases hp with
      | refl hs => simp [simple] at hs
      | ptr hx =>
        rename_i i o x
        simp only at hrow hle'
        obtain ⟨C, fz, hB, hob, hf, hN, hn, hti, hc⟩ := h.row hrow hx
        obtain ⟨w', C', h1, h2, h3, h4, h5, h6, h7, h8, h9⟩ := run_storeCells (P := P) l' 0 w C (x.sh + o) hob hf (by rw [← hl.1]; omega) (hl.ones hone)
        refine ⟨_, w', rfl, rfl, h1, ?_⟩
        refine h.turn hrow rfl hx rfl h4 h5 h6 h7 h8 h2 ⟨rfl, by rw [h3]; exact hf, by rw [hN, h3], hn, hti, fun j hj => ?_⟩
        rw [T.get_setL, h9 (x.sh + j)]
        by_cases h10 : o ≤ j ∧ j < o + l.length
        · rw [if_pos h10, if_pos (by rw [← hl.1]; omega)]
          have hj1 : j - o < l.length := by omega
          obtain ⟨v', hv', hr⟩ := hl.getElem? (List.getElem?_eq_getElem hj1)
          refine ⟨_, v', List.getElem?_eq_getElem hj1, ?_, hr⟩
          rw [show x.sh + j - (x.sh + o + 0) = j - o from by omega]; exact hv'
        · rw [if_neg h10, if_neg (by rw [← hl.1]; omega)]
          exact hc j hj
    · cases hs
  · cases hs
/-! ### a new block -/
theorem heap_alloc_last (w : World) (o : Obj) : (w.alloc o).heap[w.heap.size]? = some o := by
  show (w.heap.push o)[w.heap.size]? = some o
  exact Array.getElem?_push_size
theorem MR.new {w0 : World} {σ : Sg} {m : Mem} {w : World} (h : MR E w0 σ m w) {id : Nat} (hid : σ id = none) {n' : Nat} (hn : m.n ≤ n') (hidn : id < n') {o : AObj} {ob : Obj} {x : Inf} (hx : x.b = w.heap.size)
    (hor : OR E σ x o ob) : MR E w0 (fun j => if j = id then some x else σ j) ⟨n', m.t.set id o⟩ (w.alloc ob) ∧ (m.n ≤ id → FG σ m w (fun j => if j = id then some x else σ j) ⟨n', m.t.set id o⟩ (w.alloc ob)) := by
  have hext : Ext σ (fun j => if j = id then some x else σ j) := fun i y hy => by
    have : i ≠ id := fun e => by rw [e, hid] at hy; cases hy
    simp [this, hy]
  have hlive : ∀ b, LiveB (fun j => if j = id then some x else σ j) ⟨n', m.t.set id o⟩ b → LiveB σ m b ∨ w.heap.size ≤ b := by
    rintro b ⟨j, p, z, hj, hp, hz, rfl⟩
    by_cases e : id = j
    · subst e; simp at hz; subst hz; exact .inr (by omega)
    · rw [T.get_set_ne _ _ e] at hj
      have e' : j ≠ id := fun h => e h.symm
      simp only [e', if_false] at hz
      exact .inl ⟨j, p, z, hj, hp, hz, rfl⟩
  have hB : w0.heap.size ≤ w.heap.size := h.below.size
  refine ⟨⟨h.below.alloc hB ob, ?_, ?_, ?_⟩, fun hid3 => ⟨hext, by simp, ?_, hlive, hn, fun i hi => if_neg (by omega)⟩⟩
  · intro j p hj hp
    by_cases e : id = j
    · subst e
      rw [T.get_set_same] at hj
      cases hj
      exact ⟨x, ob, by simp, by omega, by rw [hx]; exact heap_alloc_last w ob, hor.mono hext⟩
    · rw [T.get_set_ne _ _ e] at hj
      obtain ⟨z, oz, hz, hBz, hoz, horz⟩ := h.obj j p hj hp
      refine ⟨z, oz, hext _ _ hz, hBz, ?_, horz.mono hext⟩
      have hlt : z.b < w.heap.size := by
        rcases Nat.lt_or_ge z.b w.heap.size with h1 | h1
        · exact h1
        · rw [Array.getElem?_eq_none h1] at hoz; cases hoz
      rw [Below.heap_alloc w ob z.b hlt]; exact hoz
  · have hb : ∀ {j p z}, m.t.get j = some p → p.live = true → σ j = some z → z.b < w.heap.size := by
      intro j p z hj hp hz
      obtain ⟨z', oz, hz', _, hoz, _⟩ := h.obj j p hj hp
      obtain rfl : z' = z := by rw [hz] at hz'; exact (Option.some.inj hz').symm
      rcases Nat.lt_or_ge z'.b w.heap.size with h1 | h1
      · exact h1
      · rw [Array.getElem?_eq_none h1] at hoz; cases hoz
    intro j k p q z z' hj hp hk hq hz hz' e
    by_cases e1 : id = j <;> by_cases e2 : id = k
    · omega
    · subst e1
      rw [T.get_set_ne _ _ e2] at hk
      have e2' : k ≠ id := fun h => e2 h.symm
      simp only [e2', if_false, if_true] at hz hz'
      have := hb hk hq hz'
      simp at hz; subst hz; omega
    · subst e2
      rw [T.get_set_ne _ _ e1] at hj
      have e1' : j ≠ id := fun h => e1 h.symm
      simp only [e1', if_false, if_true] at hz hz'
      have := hb hj hp hz
      simp at hz'; subst hz'; omega
    · rw [T.get_set_ne _ _ e1] at hj
      rw [T.get_set_ne _ _ e2] at hk
      have e1' : j ≠ id := fun h => e1 h.symm
      have e2' : k ≠ id := fun h => e2 h.symm
      simp only [e1', e2', if_false] at hz hz'
      exact h.inj j k p q z z' hj hp hk hq hz hz' e
  · intro i hi
    have h1 : i ≠ id := by have : n' ≤ i := hi; omega
    simp only [h1, if_false]
    exact h.fresh i (Nat.le_trans hn hi)
  · intro b hb _
    exact Below.heap_alloc w ob b hb
theorem MR.drop {w0 : World} {σ : Sg} {m : Mem} {w : World} (h : MR E w0 σ m w) (i : Nat) : MR E w0 σ ⟨m.n, m.t.set i .dead⟩ w := by
  have key : ∀ {j p}, (m.t.set i .dead).get j = some p → p.live = true → m.t.get j = some p := by
    intro j p hj hp
    by_cases e : i = j
    · subst e; rw [T.get_set_same] at hj; cases hj; cases hp
    · rwa [T.get_set_ne _ _ e] at hj
  exact ⟨h.below, fun j p hj hp => h.obj j p (key hj hp) hp, fun j k p q z z' hj hp hk hq => h.inj j k p q z z' (key hj hp) hp (key hk hq) hq, h.fresh⟩
theorem MR.drew {w0 : World} {σ : Sg} {m : Mem} {w : World} (h : MR E w0 σ m w) : MR E w0 σ m w.drew := ⟨h.below.drew, h.obj, h.inj, h.fresh⟩
theorem OR.newRow {σ : Sg} {w : World} {e : TypeId} {ti : TI} (hti : E.types.get e = some ti) {l l' : List Value} (hl : VRL σ l l') :
    OR E σ ⟨w.heap.size, 0, l.length, ti.size⟩ (newRow e l) (.cells l'.toArray e) :=
  ⟨rfl, NF.zero _, by simp [hl.1], Nat.le_refl _, ⟨ti, hti, rfl⟩, fun j hj => by
    obtain ⟨v', h1, h2⟩ := hl.getElem? (List.getElem?_eq_getElem hj)
    exact ⟨_, v', by rw [T.get_ofList]; exact List.getElem?_eq_getElem hj, by simpa using h1, h2⟩⟩
theorem VRL.simple {σ : Sg} {l : List Value} (h : ∀ v ∈ l, AE.simple v = true) : VRL σ l l :=
  ⟨rfl, fun i hi => by rw [getD_of hi]; exact .refl (h _ (List.getElem_mem hi))⟩
end Go.AE
