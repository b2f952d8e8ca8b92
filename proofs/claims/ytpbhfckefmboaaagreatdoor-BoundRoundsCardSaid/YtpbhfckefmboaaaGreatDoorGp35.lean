/- All operations together. -/
import Derived.Test.YtpbhfckefmboaaaGreatDoorGp31
import Derived.Test.YtpbhfckefmboaaaGreatDoorGp34
import Derived.Laws.Strings2
set_option linter.unusedVariables false
set_option linter.unusedSimpArgs false
set_option linter.unusedSectionVars false
namespace Go.AE
open Go.RowKit
variable {E : Env} {P : Program} {w0 : World} {σ : Sg} {m : Mem} {w : World}
theorem OutOK.congr {s s' : Sem Next} {out : Out} (he : s'.run P w = s.run P w) (h : OutOK E P w0 σ m w s out) : OutOK E P w0 σ m w s' out := by
  cases out with
  | val v => obtain ⟨nx, v', h1, h2, h3⟩ := h; exact ⟨nx, v', he.trans h1, h2, h3⟩
  | new o mk => obtain ⟨v', ob, x, h1, h2⟩ := h; exact ⟨v', ob, x, he.trans h1, h2⟩
  | eff v m' => obtain ⟨nx, v', w', σ', h1, h2⟩ := h; exact ⟨nx, v', w', σ', he.trans h1, h2⟩
  | enter f args =>
    cases f with
    | fn f => obtain ⟨args', h1, h2⟩ := h; exact ⟨args', he.trans h1, h2⟩
    | yld i => obtain ⟨args', x, h0, h1, h2⟩ := h; exact ⟨args', x, h0, he.trans h1, h2⟩
theorem ofO_cong {o : Option Out} {s s' : Sem Next} (hne : ofO o ≠ []) (he : s'.run P w = s.run P w) (h : ∀ x, o = some x → OutOK E P w0 σ m w s x) : ∃ x ∈ ofO o, OutOK E P w0 σ m w s' x :=
  ofO_mem hne (fun x hx => (h x hx).congr he)
theorem arr2 {α : Type} {a : Array α} {x y : α} (h : a.toList = [x, y]) : a = #[x, y] := Array.ext' (by simpa using h)
theorem arr1 {α : Type} {a : Array α} {x : α} (h : a.toList = [x]) : a = #[x] := Array.ext' (by simpa using h)
theorem map1 (ρ : Operand → Value) (x : Operand) : (#[x].map ρ) = #[ρ x] := by simp
theorem map2 (ρ : Operand → Value) (x y : Operand) : (#[x, y].map ρ) = #[ρ x, ρ y] := by simp
theorem VRL.map {ρ ρ' : Operand → Value} (hρ : ∀ x, VR σ (ρ x) (ρ' x)) (l : List Operand) : VRL σ (l.map ρ) (l.map ρ') := by
  induction l with
  | nil => exact VRL.nil σ
  | cons x l ih => exact VRL.cons (hρ x) ih
theorem VRP.map {ρ ρ' : Operand → Value} (hρ : ∀ x, VR σ (ρ x) (ρ' x)) (l : Array (Nat × Operand)) : VRP σ (l.toList.map fun p => (p.1, ρ p.2)) (l.map fun p => (p.1, ρ' p.2)).toList := by
  rw [Array.toList_map]
  refine ⟨by simp, fun i a b ha hb => ?_⟩
  rw [List.getElem?_map] at ha hb
  cases h : l.toList[i]? with
  | none => rw [h] at ha; cases ha
  | some p => rw [h] at ha hb; cases ha; cases hb; exact ⟨rfl, hρ _⟩
theorem VRO.map {ρ ρ' : Operand → Value} (hρ : ∀ x, VR σ (ρ x) (ρ' x)) (x : Option Operand) : VRO σ (x.map ρ) (x.map ρ') := by
  cases x with
  | none => exact .inl ⟨rfl, rfl⟩
  | some x => exact .inr ⟨_, _, rfl, rfl, hρ x⟩
theorem map_isNone (x y : Option Operand) (ρ : Operand → Value) : ((x.map ρ).isNone && (y.map ρ).isSome) = (x.isNone && y.isSome) := by cases x <;> cases y <;> rfl
theorem sliceA_sound (hE : EOK E P) (h : MR E w0 σ m w) {t : TypeId} {x x' : Value} {lo hi mx lo' hi' mx' : Option Value} (hne : sliceA E t x lo hi mx m ≠ []) (hx : VR σ x x') (hlo : VRO σ lo lo') (hhi : VRO σ hi hi') (hmx : VRO σ mx mx') :
    ∃ out ∈ sliceA E t x lo hi mx m, OutOK E P w0 σ m w (do pure (.value (← Instr.sliceAt t x' lo' hi' mx'))) out := by
  generalize hL : sliceA E t x lo hi mx m = L at hne ⊢
  unfold sliceA at hL
  split at hL
  · rename_i ti hti hmh
    obtain ⟨hu, _⟩ := hE.types t ti hti
    have hmh' : hi' = none → mx' = none := by
      intro he
      rcases hhi with ⟨h1, _⟩ | ⟨_, _, _, h2, _⟩
      · rcases hmx with ⟨_, h3⟩ | ⟨_, _, h3, _⟩
        · exact h3
        · subst h1 h3; cases hmh
      · rw [he] at h2; cases h2
    split at hL
    · rename_i e hd
      split at hL
      · rename_i te hte
        subst hL
        exact sliceS_sound hE h (by rw [hu, hd]) hte hne hx hlo hhi hmx hmh
      · exact absurd hL.symm hne
    · rename_i hd
      split at hL
      · rename_i s
        obtain rfl := hx.simple_inv rfl
        have hmx' : mx' = none := by
          rcases hmx with ⟨_, h⟩ | ⟨_, _, h, _⟩
          · exact h
          · cases h
        have hss : s.size = s.data.toList.length := by cases s; rfl
        split at hL
        · rename_i hh hbh
          split at hL
          · rename_i l hbl
            subst hL
            refine ⟨_, List.mem_singleton.2 rfl, ?_⟩
            have h2 := bound_sound hbh hhi
            have h3 := bound_sound hbl hlo
            have hb := run_bounds (P := P) (isS := false) (len := s.size) (cap := s.size) (mx := none) (hi := hi') (lo := lo') (m := s.size) (h := hh) (l := l) (.inl ⟨rfl, rfl⟩) (h2.imp (fun ⟨_, a, b⟩ => ⟨a, by omega⟩) (fun ⟨k, a, b⟩ => ⟨k, a, by omega⟩)) (fun _ => rfl) (h3.imp (fun ⟨_, a, b⟩ => ⟨a, b⟩) id) w
            refine out_val rfl (v' := .string (s.extract l hh)) ?_ ?_
            · subst hmx'
              simp [Instr.sliceAt, Instr.slice, run_underlying hu, hd, hb]
            · have : s.extract l hh = ⟨((s.data.toList.drop l).take (hh - l)).toArray⟩ := by
                have h9 := Go.ByteArray.extract_mk s.data.toList l hh
                simpa using h9
              rw [this]
              exact .refl rfl
          · exact absurd hL.symm hne
        · exact absurd hL.symm hne
      · exact absurd hL.symm hne
    · rename_i n e hd
      split at hL
      · rename_i a te hte hn
        have hn' := Nat.le_of_ble_eq_true hn
        obtain ⟨_, i, z, hi0, hsz, _⟩ := hE.types e te hte
        split at hL
        · rename_i mm hbm
          split at hL
          · rename_i hh hbh
            split at hL
            · rename_i l hbl
              subst hL
              refine ⟨_, List.mem_singleton.2 rfl, ?_⟩
              have h1 := bound_sound hbm hmx
              have h2 := bound_sound hbh hhi
              have h3 := bound_sound hbl hlo
              have hmn : mm ≤ n := by rcases h1 with ⟨_, _, h⟩ | ⟨_, _, h⟩ <;> omega
              have hb := run_bounds (P := P) (isS := false) (len := n) (cap := n) (h1.imp (fun ⟨_, a, b⟩ => ⟨a, b⟩) id) (h2.imp (fun ⟨_, a, b⟩ => ⟨a, b⟩) id) hmh' (h3.imp (fun ⟨_, a, b⟩ => ⟨a, b⟩) id) w
              cases hx with
              | refl h0 => simp [AE.simple] at h0
              | ptr hy =>
                rename_i j o y
                have hrun : (Instr.sliceAt t (.pointer (some ⟨y.b, y.sh + o, none⟩)) lo' hi' mx').run P w = .ok (.slice (some (if mm = l then ⟨y.b, y.sh + o, none⟩ else (⟨y.b, y.sh + o, none⟩ : Addr).add (l * i.size))) (hh - l) (mm - l)) w := by
                  simp [Instr.sliceAt, run_underlying hu, hd, Instr.sureAddr, hb, sizeOf_run hi0]
                refine out_val rfl hrun ?_
                by_cases e1 : mm = l
                · subst e1
                  simp only [if_true, Nat.beq_refl, cond]
                  exact .slice hy (fun _ => rfl) (fun ho => absurd ho (by unfold OPEN; omega))
                · have : Nat.beq mm l = false := by
                    cases hb2 : Nat.beq mm l with
                    | false => rfl
                    | true => exact absurd (Nat.eq_of_beq_eq_true hb2) e1
                  simp only [e1, if_false, this, cond, addr_add, hsz, Nat.add_assoc]
                  exact .slice hy (fun _ => rfl) (fun ho => absurd ho (by unfold OPEN; omega))
            · exact absurd hL.symm hne
          · exact absurd hL.symm hne
        · exact absurd hL.symm hne
      · exact absurd hL.symm hne
    · exact absurd hL.symm hne
  · exact absurd hL.symm hne
theorem methodA_sound (hE : EOK E P) {t : TypeId} {name : String} {g : FuncId} {v v' u : Value} (h : methodA E t name v = some (g, u)) (hv : VR σ v v') (n : Nat) (w : World) :
    ∃ u', (method (n + 1) t v' name).run P w = .ok (g, u') w ∧ VR σ u u' := by
  unfold methodA at h
  split at h
  · rename_i i ti hi hti
    rw [hE.prog] at hi
    obtain ⟨hu, _⟩ := hE.types t ti hti
    split at h
    · rename_i mt hm
      have hm' : i.methods.find? (fun m => m.name == name) = some mt := by simpa using hm
      split at h
      · rename_i f ptr hp hf
        have hp' : mt.path = #[] := Array.ext' hp
        split at h
        · rename_i e hd
          cases h
          rw [hd] at hu
          exact ⟨v', by simp [method, typeInfo, hi, hm', hp', follow, hf, receiverAt, run_underlying hu, Place.get], hv⟩
        · cases h
        · rename_i hd
          cases h
          refine ⟨v', ?_, hv⟩
          generalize ti.desc = d at hu hd
          cases d <;> first | exact absurd rfl (hd _) | simp [method, typeInfo, hi, hm', hp', follow, hf, receiverAt, run_underlying hu, Place.get]
        · cases h
      · rename_i st f hp hf
        have hp' : mt.path = #[st] := Array.ext' hp
        split at h
        · rename_i ts a hdf hts
          obtain ⟨hus, _⟩ := hE.types _ _ hts
          split at h
          · rename_i fs hd
            split at h
            · rename_i fd hfd
              split at h
              · rename_i tf htf
                obtain ⟨huf, j, z, hj, hsz, _⟩ := hE.types _ _ htf
                split at h
                · rename_i hne hnp
                  cases h
                  cases hv with
                  | refl hs => simp [AE.simple] at hs
                  | ptr hσ =>
                    refine ⟨_, ?_, .ptr hσ⟩
                    have hn : ¬ j.size = 0 := by rw [hsz]; exact Nat.ne_of_beq_eq_false hne
                    rw [hd] at hus
                    generalize tf.desc = dd at huf hnp
                    cases dd <;> first | (cases hnp; done) | simp [method, typeInfo, hi, hm', hp', follow, hf, receiverAt, run_underlying hus, run_underlying huf, Place.get, hfd, hdf, asAddr, fieldPlace, sizeOf_run hj, hn, addr_add, Nat.add_assoc]
                · cases h
              · cases h
            · cases h
          · cases h
        · cases h
      · cases h
    · cases h
  · cases h
theorem methodA_ahead (hE : EOK E P) {t : TypeId} {name : String} {r : FuncId × Value} {v v' : Value} (h : methodA E t name v = some r) (hv : VR σ v v') (n : Nat) (w : World) :
    (nilAhead (n + 1) t v' name).run P w = .ok (some false) w := by
  unfold methodA at h
  split at h
  · rename_i i ti hi hti
    rw [hE.prog] at hi
    obtain ⟨hu, _⟩ := hE.types t ti hti
    split at h
    · rename_i mt hm
      have hm' : i.methods.find? (fun m => m.name == name) = some mt := by simpa using hm
      split at h
      · rename_i f ptr hp hf
        have hp' : mt.path = #[] := Array.ext' hp
        split at h
        · simp [nilAhead, typeInfo, hi, hm', hp', followBlind, hf]
        · cases h
        · rename_i hd
          generalize ti.desc = d at hu hd
          cases d <;> first | exact absurd rfl (hd _) | simp [nilAhead, typeInfo, hi, hm', hp', followBlind, hf, run_underlying hu]
        · cases h
      · rename_i st f hp hf
        have hp' : mt.path = #[st] := Array.ext' hp
        split at h
        · rename_i ts a hdf hts
          obtain ⟨hus, _⟩ := hE.types _ _ hts
          split at h
          · rename_i fs hd
            split at h
            · rename_i fd hfd
              rw [hd] at hus
              cases hv with
              | refl hs => simp [AE.simple] at hs
              | ptr hσ => simp [nilAhead, typeInfo, hi, hm', hp', followBlind, hf, run_underlying hus, hfd, hdf]
            · cases h
          · cases h
        · cases h
      · cases h
    · cases h
  · cases h
theorem noT_sound (hE : EOK E P) {asserted : TypeId} {ta : TI} (hta : E.types.get asserted = some ta) {ok : Bool} {v : Value} (h : noT ok (zeroOf ta) = some v) {s : Sem Value} (w : World)
    (hs : ok = true → s.run P w = (do pure (.tuple #[← zeroValue asserted, .bool false]) : Sem Value).run P w) : ∃ v', s.run P w = .ok v' w ∧ VR σ v v' := by
  cases ok with
  | false => cases h
  | true =>
    obtain ⟨z, hz, hzv⟩ := zeroOf_sound (σ := σ) hE hta w
    cases h
    refine ⟨.tuple #[z, .bool false], ?_, .tuple_of (VRL.cons hzv (VRL.cons (.refl rfl) (VRL.nil σ)))⟩
    rw [hs rfl]
    simp [hz]
theorem yesT_sound {ok : Bool} {v u v' : Value} (h : yesT ok v = some u) (hv : VR σ v v') : VR σ u (if ok = true then .tuple #[v', .bool true] else v') := by
  cases ok <;> cases h
  · exact hv
  · exact .tuple_of (VRL.cons hv (VRL.cons (.refl rfl) (VRL.nil σ)))
theorem range_sound (hE : EOK E P) (h : MR E w0 σ m w) {t : TypeId} {x x' : Value} {out : Out} (ha : rangeA E t x m = some out) (hx : VR σ x x') : OutOK E P w0 σ m w (do pure (.value (← Instr.range t x'))) out := by
  unfold rangeA at ha
  split at ha
  · cases ha
  · rename_i ti hti
    obtain ⟨hu, _⟩ := hE.types _ _ hti
    split at ha
    · rename_i s hd
      rw [hd] at hu
      obtain rfl := hx.simple_inv rfl
      cases ha
      exact ⟨_, .stringIter s 0, ⟨w.heap.size, 0, 0, 0⟩, by simp [Instr.range, run_underlying hu], rfl, rfl, ⟨rfl, rfl, rfl⟩, fun σ' id hy => .ptr hy⟩
    · rename_i hd
      rw [hd] at hu
      obtain rfl := hx.simple_inv rfl
      cases ha
      exact ⟨_, .mapIter none 0 #[] 0, ⟨w.heap.size, 0, 0, 0⟩, by simp [Instr.range, run_underlying hu], rfl, rfl, rfl, fun σ' id hy => .ptr hy⟩
    · rename_i r hd
      rw [hd] at hu
      split at ha
      · rename_i es clock hr
        cases ha
        cases hx with
        | refl hs => simp [AE.simple] at hs
        | map hy =>
          rename_i y
          obtain ⟨es', hob, her⟩ := h.mapObj hr hy
          exact ⟨_, .mapIter (some y.b) clock #[] clock, ⟨w.heap.size, 0, 0, 0⟩, by simp [Instr.range, run_underlying hu, run_getObj_map hob], rfl, rfl, ⟨⟨y, hy, rfl⟩, rfl, rfl, rfl, rfl⟩, fun σ' id hz => .ptr hz⟩
      · cases ha
    · cases ha
theorem run_getObj {w : World} {r : Nat} {o : Obj} (h : w.heap[r]? = some o) (hn : ∀ a b c, o ≠ .cells a b c := by intro a b c h; cases h) : (getObj r).run P w = .ok o w := by
  cases o <;> first | exact absurd rfl (hn _ _ _) | simp [getObj, Sem.run, h]
theorem choose_next {n : Nat} (hn : 0 < n) (w : World) : ∃ (j : Nat) (w1 : World), j < n ∧ (w1 = w ∨ w1 = w.drew) ∧ (choose (Question.mapNext n)).run P w = .ok j w1 := by
  by_cases hf : n ≤ 1
  · exact ⟨0, w, by omega, Or.inl rfl, by simp [choose, Sem.run, Question.forced, hf]⟩
  · exact ⟨_, w.drew, Nat.mod_lt _ hn, Or.inr rfl, by
      simp only [choose, Sem.run, Question.forced, decide_eq_true_eq, hf, if_false, Question.cut]
      rfl⟩
theorem memB_iff {x : Nat} : ∀ {l : List Nat}, memB x l = l.contains x := by
  intro l
  induction l with
  | nil => rfl
  | cons y l ih =>
    have hb : Nat.beq x y = (x == y) := by cases e : Nat.beq x y with | true => simp [Nat.eq_of_beq_eq_true e] | false => simp [Nat.ne_of_beq_eq_false e]
    simp only [memB, List.contains_cons, ih, hb]
    cases x == y <;> rfl
theorem leftOf_sound {seen : List Nat} {seen' : Array Nat} (hs : seen'.toList = seen) : ∀ {es es' : List MapEntry}, ERL σ es es' → ERL σ (leftOf seen es) (es'.filter fun e => !seen'.contains e.born) := by
  intro es
  induction es with
  | nil => intro es' h; obtain rfl := h.nil_inv; exact h
  | cons e es ih =>
    intro es' h
    obtain ⟨e', es', rfl⟩ := h.cons_inv
    have hm : memB e.born seen = seen'.contains e'.born := by rw [memB_iff, ← h.head.1, ← hs, Array.contains_toList]
    simp only [leftOf, List.filter_cons, hm]
    cases seen'.contains e'.born with
    | true => exact ih h.tail
    | false => exact ERL.cons h.head (ih h.tail)
theorem oldOf_sound {since : Nat} : ∀ {es es' : List MapEntry}, ERL σ es es' → ERL σ (oldOf since es) (es'.filter fun e => decide (e.born < since)) := by
  intro es
  induction es with
  | nil => intro es' h; obtain rfl := h.nil_inv; exact h
  | cons e es ih =>
    intro es' h
    obtain ⟨e', es', rfl⟩ := h.cons_inv
    have hm : Nat.blt e.born since = decide (e'.born < since) := by
      rw [h.head.1]
      by_cases hlt : e'.born < since
      · rw [decide_eq_true hlt]; exact Nat.ble_eq_true_of_le hlt
      · rw [decide_eq_false hlt]
        cases hb : Nat.blt e'.born since with
        | false => rfl
        | true => exact absurd (Nat.le_of_ble_eq_true hb) hlt
    simp only [oldOf, List.filter_cons, hm]
    cases decide (e'.born < since) with
    | true => exact ERL.cons h.head (ih h.tail)
    | false => exact ih h.tail
theorem newOf_sound {since : Nat} : ∀ {es es' : List MapEntry}, ERL σ es es' → ERL σ (newOf since es) (es'.filter fun e => decide (e.born ≥ since)) := by
  intro es
  induction es with
  | nil => intro es' h; obtain rfl := h.nil_inv; exact h
  | cons e es ih =>
    intro es' h
    obtain ⟨e', es', rfl⟩ := h.cons_inv
    have hm : Nat.blt e.born since = !decide (e'.born ≥ since) := by
      rw [h.head.1]
      by_cases hlt : e'.born < since
      · rw [decide_eq_false (by omega)]; exact Nat.ble_eq_true_of_le hlt
      · rw [decide_eq_true (by omega)]
        cases hb : Nat.blt e'.born since with
        | false => rfl
        | true => exact absurd (Nat.le_of_ble_eq_true hb) hlt
    simp only [newOf, List.filter_cons, hm]
    cases decide (e'.born ≥ since) with
    | true => exact ERL.cons h.head (ih h.tail)
    | false => exact ih h.tail
theorem isNil_sound {es es' : List MapEntry} (h : ERL σ es es') : isNil es = es'.isEmpty := by
  cases es with
  | nil => obtain rfl := h.nil_inv; rfl
  | cons e es => obtain ⟨e', es', rfl⟩ := h.cons_inv; rfl
theorem allBorn_sound {last : Nat} : ∀ {es es' : List MapEntry}, ERL σ es es' → allBorn last es = es'.all fun e => decide (e.born ≥ last) := by
  intro es
  induction es with
  | nil => intro es' h; obtain rfl := h.nil_inv; rfl
  | cons e es ih =>
    intro es' h
    obtain ⟨e', es', rfl⟩ := h.cons_inv
    have hm : Nat.ble last e.born = decide (e'.born ≥ last) := by
      rw [h.head.1]
      by_cases hlt : last ≤ e'.born
      · rw [decide_eq_true hlt]; exact Nat.ble_eq_true_of_le hlt
      · rw [decide_eq_false hlt]
        cases hb : Nat.ble last e'.born with
        | false => rfl
        | true => exact absurd (Nat.le_of_ble_eq_true hb) hlt
    simp only [allBorn, List.all_cons, hm, ih h.tail]
    cases decide (e'.born ≥ last) <;> rfl
theorem nextEnts_mem {m : Mem} {i r since : Nat} {seen : List Nat} {clock : Nat} : ∀ {l : List MapEntry} {j : Nat} {e : MapEntry}, l[j]? = some e → Out.eff (.tuple #[.bool true, e.key, e.val]) ⟨m.n, m.t.set i (.mit (some r) since (seen ++ [e.born]) clock)⟩ ∈ nextEnts m i r since seen clock l := by
  intro l
  induction l with
  | nil => intro j e h; cases h
  | cons a l ih =>
    intro j e h
    cases j with
    | zero => cases h; simp [nextEnts]
    | succ j => exact List.mem_cons_of_mem _ (ih h)
theorem MR.iter (h : MR E w0 σ m w) {i : Nat} {o : AObj} (hr : m.t.get i = some o) (ho : o.live = true) {x : Inf} (hx : σ i = some x) : ∃ ob, w.heap[x.b]? = some ob ∧ OR E σ x o ob ∧ x.b < w.heap.size := by
  obtain ⟨y, ob, hy, hB, hob, hor⟩ := h.obj i _ hr ho
  obtain rfl : y = x := by rw [hx] at hy; exact (Option.some.inj hy).symm
  exact ⟨ob, hob, hor, (Array.getElem?_eq_some_iff.1 hob).1⟩
theorem run_setObj {w : World} {r : Nat} {o o' : Obj} (h : w.heap[r]? = some o) (hn : ∀ a b c, o ≠ .cells a b c) : (setObj r o').run P w = .ok () { w with heap := w.heap.setIfInBounds r o' } := by
  cases o <;> first | exact absurd rfl (hn _ _ _) | simp [setObj, Sem.run, h]
theorem MR.turnObj (h : MR E w0 σ m w) {i : Nat} {o o' : AObj} (hr : m.t.get i = some o) (ho : o.live = true) (ho' : o'.live = true) {x : Inf} (hx : σ i = some x) (hlt : x.b < w.heap.size) {ob : Obj} (hor : OR E σ x o' ob) :
    MR E w0 σ ⟨m.n, m.t.set i o'⟩ { w with heap := w.heap.setIfInBounds x.b ob } ∧ FG σ m w σ ⟨m.n, m.t.set i o'⟩ { w with heap := w.heap.setIfInBounds x.b ob } :=
  h.turn hr ho hx ho' (by simp) (fun k hk => by simp [Ne.symm hk]) rfl rfl rfl (ob := ob) (by simp [hlt]) hor
theorem FG.drew (σ : Sg) (m : Mem) (w : World) : FG σ m w σ m w.drew := ⟨Ext.refl σ, Nat.le_refl _, fun _ _ _ => rfl, fun _ h => .inl h, Nat.le_refl _, fun _ _ => rfl⟩
set_option maxHeartbeats 1000000 in
theorem next_sound (h : MR E w0 σ m w) {ty : TypeId} {it it' : Value} {isString : Bool} (hne : nextA it isString m ≠ []) (hx : VR σ it it') :
    ∃ out ∈ nextA it isString m, OutOK E P w0 σ m w (do pure (.value (← Instr.next it' isString ty))) out := by
  generalize hL : nextA it isString m = L at hne ⊢
  unfold nextA at hL
  split at hL
  · rename_i i
    cases hx with
    | refl hs => simp [AE.simple] at hs
    | ptr hσ =>
      rename_i x
      split at hL
      · rename_i s p hr
        obtain ⟨ob, hob, hor, hlt⟩ := h.iter hr rfl hσ
        cases ob with
        | stringIter s' p' =>
          obtain ⟨rfl, rfl, hsh⟩ := hor
          have hg := run_getObj (P := P) hob
          split at hL
          · rename_i hp
            subst hL
            have hp' : p' < s'.size := Nat.le_of_ble_eq_true hp
            obtain ⟨hm', hf'⟩ := h.turnObj (o' := .sit s' (p' + (Utf8.decode s' p').2)) (ob := .stringIter s' (p' + (Utf8.decode s' p').2)) hr rfl rfl hσ hlt ⟨rfl, rfl, hsh⟩
            refine ⟨_, List.mem_singleton.2 rfl, out_eff (σ' := σ) rfl (v' := .tuple #[.bool true, .int .i64 p', .int .i32 (Utf8.decode s' p').1]) ?_ ?_ hm' hf'⟩
            · simp only [Instr.next, hsh, Nat.add_zero, Sem.run_bind, hg, Result.andThen_ok, hp', if_true, run_setObj (P := P) hob (by intro a b c e; cases e)]
              rfl
            · exact .tuple_of (VRL.cons (.refl rfl) (VRL.cons (.refl rfl) (VRL.cons (.refl rfl) (VRL.nil σ))))
          · rename_i hp
            subst hL
            have hp' : ¬ p' < s'.size := fun e => by
              have h1 : Nat.blt p' s'.size = true := Nat.ble_eq_true_of_le e
              rw [h1] at hp; cases hp
            refine ⟨_, List.mem_singleton.2 rfl, out_val rfl (v' := .tuple #[.bool false]) ?_ (.tuple_of (VRL.cons (.refl rfl) (VRL.nil σ)))⟩
            simp only [Instr.next, hsh, Nat.add_zero, Sem.run_bind, hg, Result.andThen_ok, hp', if_false]
            rfl
        | _ => exact hor.elim
      · rename_i hr
        subst hL
        obtain ⟨ob, hob, hor, hlt⟩ := h.iter hr rfl hσ
        cases ob with
        | mapIter r' s1 s2 s3 =>
          cases r' with
          | some _ => exact hor.elim
          | none =>
            have hsh : x.sh = 0 := hor
            have hg := run_getObj (P := P) hob
            refine ⟨_, List.mem_singleton.2 rfl, out_val rfl (v' := .tuple #[.bool false]) ?_ (.tuple_of (VRL.cons (.refl rfl) (VRL.nil σ)))⟩
            simp only [Instr.next, hsh, Nat.add_zero, Sem.run_bind, hg, Result.andThen_ok]
            rfl
        | _ => exact hor.elim
      · rename_i r since seen last hr
        split at hL
        · rename_i es clock hrm
          obtain ⟨ob, hob, hor, hlt⟩ := h.iter hr rfl hσ
          cases ob with
          | mapIter r' since' seen' last' =>
            cases r' with
            | none => exact hor.elim
            | some b =>
              obtain ⟨⟨y, hy, rfl⟩, rfl, hseen, rfl, hsh⟩ := hor
              obtain ⟨es', hobm, her⟩ := h.mapObj hrm hy
              have hg := run_getObj (P := P) hob
              have hgm := run_getObj (P := P) hobm
              have hl := leftOf_sound hseen her
              have ho := oldOf_sound (since := since') hl
              have hn := newOf_sound (since := since') hl
              have hon := ho.append hn
              have htest : (!seen'.isEmpty && !es'.isEmpty && es'.all fun e => decide (e.born ≥ last')) = false := by
                have h1 : seen'.isEmpty = isNil seen := by
                  rw [← hseen]
                  cases seen' with | mk q => cases q <;> rfl
                have h2 : es'.isEmpty = isNil es := by
                  rw [isNil_sound her]
                  cases es' with | mk q => cases q <;> rfl
                have h3 : (es'.all fun e => decide (e.born ≥ last')) = allBorn last' es := by
                  rw [allBorn_sound her]; simp
                rw [h1, h2, h3]
                cases q1 : isNil seen <;> cases q2 : isNil es <;> cases q3 : allBorn last' es <;> first | rfl | (simp only [q1, q2, q3] at hL; exact absurd hL.symm hne)
              have hL2 : L = cond (isNil (oldOf since' (leftOf seen es))) [Out.eff overV m] [] ++ nextEnts m i r since' seen clock (oldOf since' (leftOf seen es) ++ newOf since' (leftOf seen es)) := by
                rw [← hL]
                split
                · rename_i q1 q2 q3; rw [q1, q2, q3] at hL; exact absurd hL.symm hne
                · rfl
              clear hL
              obtain ⟨OA, hOA⟩ : ∃ OA, (es'.filter fun e => !seen'.contains e.born).filter (fun e => decide (e.born < since')) = OA := ⟨_, rfl⟩
              obtain ⟨NA, hNA⟩ : ∃ NA, (es'.filter fun e => !seen'.contains e.born).filter (fun e => decide (e.born ≥ since')) = NA := ⟨_, rfl⟩
              have hOL : OA.toList = (es'.toList.filter fun e => !seen'.contains e.born).filter (fun e => decide (e.born < since')) := by rw [← hOA, Array.toList_filter, Array.toList_filter]
              have hNL : NA.toList = (es'.toList.filter fun e => !seen'.contains e.born).filter (fun e => decide (e.born ≥ since')) := by rw [← hNA, Array.toList_filter, Array.toList_filter]
              rw [← hOL] at ho
              rw [← hOL, ← hNL] at hon
              have hnil : isNil (oldOf since' (leftOf seen es)) = OA.isEmpty := by
                rw [isNil_sound ho]
                cases OA with | mk q => cases q <;> rfl
              obtain ⟨C, hC⟩ : ∃ C, (if OA.isEmpty = true then #[none] else #[]) ++ (OA ++ NA).map some = C := ⟨_, rfl⟩
              have e0 : (Instr.next (.pointer (some ⟨x.b, 0, none⟩)) false ty).run P w = ((choose (Question.mapNext C.size)).run P w).andThen (fun k => (match C[k]? with
                  | some (some e) => do
                    setObj x.b (.mapIter (some y.b) since' (seen'.push e.born) clock)
                    pure (Value.tuple #[.bool true, e.key, e.val])
                  | some none => pure (Value.tuple #[.bool false])
                  | none => stuck "Next: no such candidate" : Sem Value).run P) := by
                simp only [Instr.next, Sem.run_bind, hg, hgm, Result.andThen_ok, htest, Bool.false_eq_true, if_false, hOA, hNA, hC]
                rfl
              have hpos : 0 < C.size := by
                rw [← hC]
                by_cases q : OA.isEmpty = true
                · rw [if_pos q]; simp; omega
                · rw [if_neg q]
                  have : OA.size ≠ 0 := fun z => q (by simp [Array.isEmpty, z])
                  simp; omega
              obtain ⟨j, w1, hj, hw1, hrun⟩ := choose_next (P := P) hpos w
              rw [hrun, Result.andThen_ok] at e0
              have hm1 : MR E w0 σ m w1 ∧ FG σ m w σ m w1 ∧ w1.heap = w.heap := by
                rcases hw1 with rfl | rfl
                · exact ⟨h, FG.refl σ m _, rfl⟩
                · exact ⟨h.drew, FG.drew σ m w, rfl⟩
              obtain ⟨hm1, hf1, hh1⟩ := hm1
              have hit : (Value.pointer (some ⟨x.b, x.sh + 0, none⟩)) = .pointer (some ⟨x.b, 0, none⟩) := by rw [hsh]
              rw [hit, hL2]
              -- which candidate
              have hcase : (C[j]? = some none ∧ OA.isEmpty = true) ∨ ∃ (k : Nat) (e : MapEntry), C[j]? = some (some e) ∧ (OA ++ NA).toList[k]? = some e := by
                have hCl : C.toList = (if OA.isEmpty = true then [none] else []) ++ (OA ++ NA).toList.map some := by
                  rw [← hC, Array.toList_append, Array.toList_map]
                  by_cases q : OA.isEmpty = true <;> simp [q]
                have hj' : j < C.toList.length := by simpa using hj
                rw [← Array.getElem?_toList]
                rw [hCl] at hj' ⊢
                by_cases q : OA.isEmpty = true
                · rw [if_pos q] at hj' ⊢
                  cases j with
                  | zero => exact .inl ⟨rfl, q⟩
                  | succ j =>
                    have hjl : j < (OA ++ NA).toList.length := by
                      simp only [List.length_append, List.length_map, List.length_cons, List.length_nil] at hj'; omega
                    exact .inr ⟨j, (OA ++ NA).toList[j], by rw [List.singleton_append, List.getElem?_cons_succ, List.getElem?_map, List.getElem?_eq_getElem hjl]; rfl, List.getElem?_eq_getElem hjl⟩
                · rw [if_neg q] at hj' ⊢
                  have hjl : j < (OA ++ NA).toList.length := by
                    simp only [List.length_append, List.length_map, List.length_nil] at hj'; omega
                  exact .inr ⟨j, (OA ++ NA).toList[j], by rw [List.nil_append, List.getElem?_map, List.getElem?_eq_getElem hjl]; rfl, List.getElem?_eq_getElem hjl⟩
              rcases hcase with ⟨hcj, hq⟩ | ⟨k, e', hcj, hk⟩
              · rw [hcj] at e0
                refine ⟨.eff overV m, List.mem_append_left _ (by rw [hnil, hq]; simp), out_eff (σ' := σ) rfl (v' := .tuple #[.bool false]) (w' := w1) ?_ (.tuple_of (VRL.cons (.refl rfl) (VRL.nil σ))) hm1 hf1⟩
                rw [e0]; rfl
              · rw [hcj] at e0
                have hk' : k < (oldOf since' (leftOf seen es) ++ newOf since' (leftOf seen es)).length := by
                  have h1 := (List.getElem?_eq_some_iff.1 hk).1
                  have h2 := hon.1
                  rw [Array.toList_append] at h1
                  omega
                obtain ⟨e, hke⟩ : ∃ e, (oldOf since' (leftOf seen es) ++ newOf since' (leftOf seen es))[k]? = some e := ⟨_, List.getElem?_eq_getElem hk'⟩
                obtain ⟨hb, hkv, hvv⟩ := hon.2 k e e' hke (by rw [← Array.toList_append]; exact hk)
                have hlt1 : x.b < w1.heap.size := by rw [hh1]; exact hlt
                have hob1 : w1.heap[x.b]? = some (.mapIter (some y.b) since' seen' last') := by rw [hh1]; exact hob
                obtain ⟨hm', hf'⟩ := hm1.turnObj (o' := .mit (some r) since' (seen ++ [e.born]) clock) (ob := .mapIter (some y.b) since' (seen'.push e'.born) clock) hr rfl rfl hσ hlt1
                  ⟨⟨y, hy, rfl⟩, rfl, by rw [Array.toList_push, hseen, hb], rfl, hsh⟩
                refine ⟨_, List.mem_append_right _ (nextEnts_mem hke), out_eff (σ' := σ) rfl (v' := .tuple #[.bool true, e'.key, e'.val]) ?_ ?_ hm' (hf1.trans hf')⟩
                · rw [e0]
                  simp only [Sem.run_bind, run_setObj (P := P) hob1 (by intro a b c e; cases e), Result.andThen_ok]
                  rfl
                · exact .tuple_of (VRL.cons (.refl rfl) (VRL.cons hkv (VRL.cons hvv (VRL.nil σ))))
          | _ => exact hor.elim
        · exact absurd hL.symm hne
      · exact absurd hL.symm hne
  · exact absurd hL.symm hne
theorem lastN_sound : ∀ (l : List Nat), lastN l = l.getLast?
  | [] => rfl
  | [x] => rfl
  | _ :: y :: l => by rw [lastN, lastN_sound (y :: l), List.getLast?_cons_cons]
theorem findBorn_sound {b : Nat} : ∀ {es es' : List MapEntry}, ERL σ es es' → ∀ {e : MapEntry}, findBorn b es = some e → ∃ e', es'.find? (fun x => x.born == b) = some e' ∧ VR σ e.key e'.key ∧ VR σ e.val e'.val := by
  intro es
  induction es with
  | nil => intro es' _ e h; cases h
  | cons a es ih =>
    intro es' h e he
    obtain ⟨a', es', rfl⟩ := h.cons_inv
    obtain ⟨h1, h2, h3⟩ := h.head
    simp only [findBorn] at he
    cases hb : Nat.beq a.born b with
    | true =>
      rw [hb] at he
      cases he
      have : a'.born = b := by rw [← h1]; exact Nat.eq_of_beq_eq_true hb
      exact ⟨a', by simp [this], h2, h3⟩
    | false =>
      rw [hb] at he
      have : ¬ a'.born = b := by rw [← h1]; exact Nat.ne_of_beq_eq_false hb
      obtain ⟨e', g1, g2⟩ := ih h.tail he
      exact ⟨e', by simp [this, g1], g2⟩
theorem entry_sound (h : MR E w0 σ m w) {it it' v : Value} (ha : entryA it m = some v) (hx : VR σ it it') : ∃ v', (Instr.entry it').run P w = .ok v' w ∧ VR σ v v' := by
  unfold entryA at ha
  split at ha
  · rename_i i
    cases hx with
    | refl hs => simp [AE.simple] at hs
    | ptr hσ =>
      rename_i x
      split at ha
      · rename_i r since seen stepped hr
        split at ha
        · rename_i stamp es clock hst hrm
          split at ha
          · rename_i e hck hfe
            cases ha
            obtain rfl := Nat.eq_of_beq_eq_true hck
            obtain ⟨ob, hob, hor, hlt⟩ := h.iter hr rfl hσ
            cases ob with
            | mapIter r' since' seen' last' =>
              cases r' with
              | none => exact hor.elim
              | some b =>
                obtain ⟨⟨y, hy, rfl⟩, rfl, hseen, rfl, hsh⟩ := hor
                obtain ⟨es', hobm, her⟩ := h.mapObj hrm hy
                have hg := run_getObj (P := P) hob
                have hgm := run_getObj (P := P) hobm
                obtain ⟨e', g1, g2, g3⟩ := findBorn_sound her hfe
                have hback : seen'.back? = some stamp := by rw [← Array.getLast?_toList, hseen, ← lastN_sound, hst]
                have hfind : es'.find? (fun x => x.born == stamp) = some e' := by rw [← Array.find?_toList]; exact g1
                refine ⟨.tuple #[e'.key, e'.val], ?_, .tuple_of (VRL.cons g2 (VRL.cons g3 (VRL.nil σ)))⟩
                simp only [Instr.entry, hsh, Nat.add_zero, Sem.run_bind, hg, Result.andThen_ok, hback, hgm, bne_self_eq_false, Bool.false_eq_true, if_false, hfind]
                rfl
            | _ => exact hor.elim
          · cases ha
        · cases ha
      · cases ha
  · cases ha
theorem hasM_eq (name : String) (sig : TypeId) : ∀ l : List Method, hasM name sig l = l.any fun m => m.name == name && m.sig == sig
  | [] => rfl
  | m :: l => by
    have hb : Nat.beq m.sig sig = (m.sig == sig) := by cases e : Nat.beq m.sig sig with | true => simp [Nat.eq_of_beq_eq_true e] | false => simp [Nat.ne_of_beq_eq_false e]
    simp only [hasM, hasM_eq name sig l, List.any_cons, hb]
    cases m.name == name <;> cases m.sig == sig <;> rfl
theorem missA_spec (got : Array Method) : ∀ l : List (String × TypeId), missA got.toList l = false ↔ (l.filter fun (name, sig) => !got.any fun m => m.name == name && m.sig == sig) = []
  | [] => by simp [missA]
  | (n, s) :: l => by
    have h1 : hasM n s got.toList = got.any fun m => m.name == n && m.sig == s := by rw [hasM_eq, Array.any_toList]
    simp only [missA, h1, List.filter_cons]
    cases got.any fun m => m.name == n && m.sig == s with
    | true => simpa using missA_spec got l
    | false => simp
theorem missing_none {want : Array (String × TypeId)} {got : Array Method} (h : missA got.toList want.toList = false) : Instr.missingMethod want got = none := by
  rw [missA_spec] at h
  unfold Instr.missingMethod
  simp only [h]
  rfl
theorem least_some (p : String → Bool) (g : String → String) {M : List String} (h : M ≠ []) : ∃ s, (match M.partition p with | (u, e) => Instr.least e <|> Instr.least (u.map g)) = some s := by
  rw [List.partition_eq_filter_filter]
  cases hE : M.filter (not ∘ p) with
  | cons x l => exact ⟨_, rfl⟩
  | nil =>
    cases hU : M.filter p with
    | cons x l => exact ⟨_, rfl⟩
    | nil =>
      exfalso
      cases M with
      | nil => exact h rfl
      | cons y L =>
        rw [List.filter_cons] at hE hU
        cases hc : p y with
        | true => simp [hc] at hU
        | false =>
          have hn : (not ∘ p) y = true := by simp [hc]
          rw [if_pos hn] at hE
          cases hE
theorem missing_some {want : Array (String × TypeId)} {got : Array Method} (h : missA got.toList want.toList = true) : ∃ s, Instr.missingMethod want got = some s := by
  have hne : (want.toList.filter fun (name, sig) => !got.any fun m => m.name == name && m.sig == sig) ≠ [] := fun e => by rw [(missA_spec got _).2 e] at h; cases h
  unfold Instr.missingMethod
  exact least_some _ _ (fun e => hne (List.map_eq_nil_iff.1 e))
theorem assertA_sound (hE : EOK E P) {asserted xt : TypeId} {x x' v : Value} {ok : Bool} (h : assertA E asserted x ok = some v) (hx : VR σ x x') (w : World) :
    ∃ v', (Instr.typeAssert x' xt asserted ok).run P w = .ok v' w ∧ VR σ v v' := by
  unfold assertA at h
  split at h
  · cases h
  · rename_i ta hta
    obtain ⟨hu, _⟩ := hE.types _ _ hta
    split at h
    · rename_i want hd
      rw [hd] at hu
      obtain rfl := hx.simple_inv rfl
      refine noT_sound hE hta h w (fun hok => ?_)
      subst hok
      simp [Instr.typeAssert, run_underlying hu]
    · rename_i want t y hd
      rw [hd] at hu
      obtain ⟨y', rfl, hy⟩ := hx.iface_inv
      split at h
      · cases h
      · rename_i i hi
        rw [hE.prog] at hi
        split at h
        · rename_i hmm0
          have hmm := missing_none hmm0
          refine ⟨_, ?_, yesT_sound h hx⟩
          cases ok <;> simp [Instr.typeAssert, run_underlying hu, typeInfo, hi, hmm]
        · rename_i hmm0
          obtain ⟨s, hmm⟩ := missing_some hmm0
          refine noT_sound hE hta h w (fun hok => ?_)
          subst hok
          simp [Instr.typeAssert, run_underlying hu, typeInfo, hi, hmm]
    · rename_i hd
      obtain rfl := hx.simple_inv rfl
      refine noT_sound hE hta h w (fun hok => ?_)
      subst hok
      generalize ta.desc = d at hu hd
      cases d <;> first | exact absurd rfl (hd _) | simp [Instr.typeAssert, run_underlying hu]
    · rename_i t y hd
      obtain ⟨y', rfl, hy⟩ := hx.iface_inv
      split at h
      · rename_i he
        obtain rfl := Nat.eq_of_beq_eq_true he
        refine ⟨_, ?_, yesT_sound h hy⟩
        generalize ta.desc = d at hu hd
        cases d <;> first | exact absurd rfl (hd _) | (cases ok <;> simp [Instr.typeAssert, run_underlying hu])
      · rename_i he
        have hne := Nat.ne_of_beq_eq_false he
        refine noT_sound hE hta h w (fun hok => ?_)
        subst hok
        generalize ta.desc = d at hu hd
        cases d <;> first | exact absurd rfl (hd _) | simp [Instr.typeAssert, run_underlying hu, hne]
    · cases h
theorem callA_sound (hE : EOK E P) (h : MR E w0 σ m w) {ρ ρ' : Operand → Value} (hρ : ∀ x, VR σ (ρ x) (ρ' x)) (c : Call) (ty : TypeId) (hne : callA E ρ c m ≠ []) :
    ∃ out ∈ callA E ρ c m, OutOK E P w0 σ m w (do let d ← resolve ρ' c ty; invoke d.target d.args) out := by
  generalize hL : callA E ρ c m = L at hne ⊢
  unfold callA at hL
  have hbi : ∀ {b : Builtin} {s : Sem Value}, c.callee = .builtin b → (∀ cs, builtin b c.argTypes ty cs (c.args.map ρ') = (do pure (.value (← s)))) →
      (do let d ← resolve ρ' c ty; invoke d.target d.args : Sem Next).run P w = (do pure (.value (← s)) : Sem Next).run P w := by
    intro b s hc hs
    simp only [resolve, hc, Sem.run_bind, Sem.run_pure, Result.andThen_ok, invoke]
    rw [hs]
    simp
  split at hL
  · rename_i hc
    split at hL
    · rename_i t x ht hx
      subst hL
      have ha := arr1 hx
      refine valO_mem hne (fun v hv => ?_)
      obtain ⟨v', h1, h2⟩ := len_sound (ty := ty) hE h hv (hρ x)
      refine (out_val rfl h1 h2).congr (hbi hc (fun cs => ?_))
      rw [ha, arr1 ht, map1]; rfl
    · exact absurd hL.symm hne
  · rename_i hc
    split at hL
    · rename_i t u s x ht hx
      split at hL
      · rename_i hb
        obtain rfl := Nat.eq_of_beq_eq_true hb
        subst hL
        refine ofO_mem hne (fun o ho => ?_)
        refine (appendB_sound (ty := ty) hE h ho (hρ s) (hρ x)).congr (hbi hc (fun cs => ?_))
        rw [arr2 hx, arr2 ht, map2]; rfl
      · exact absurd hL.symm hne
    · exact absurd hL.symm hne
  · rename_i hc
    split at hL
    · rename_i t u s x ht hx
      subst hL
      refine ofO_mem hne (fun o ho => ?_)
      refine (copy_sound (u := u) (ty := ty) hE h ho (hρ s) (hρ x)).congr (hbi hc (fun cs => ?_))
      rw [arr2 hx, arr2 ht, map2]; rfl
    · exact absurd hL.symm hne
  · rename_i hc
    split at hL
    · rename_i t ts x k ht hx
      split at hL
      · rename_i m' hd
        subst hL
        have hts : c.argTypes[0]? = some t := by
          have : c.argTypes.toList[0]? = some t := by rw [ht]; rfl
          simpa using this
        obtain ⟨w', h1, h2, h3⟩ := delete_sound (ty := ty) hE h hts hd (hρ x) (hρ k)
        refine ⟨_, List.mem_singleton.2 rfl, (out_eff (σ' := σ) rfl h1 (VR.undef σ) h2 h3).congr (hbi hc (fun cs => ?_))⟩
        rw [arr2 hx, map2]; rfl
      · exact absurd hL.symm hne
    · exact absurd hL.symm hne
  · rename_i hc
    split at hL
    · rename_i x y hx
      subst hL
      refine valO_mem hne (fun v hv => ?_)
      obtain ⟨h1, h2⟩ := minmax_sound (P := P) (ts := c.argTypes) (ty := ty) hv (hρ x) (hρ y) w
      refine (out_val rfl h1 (.refl h2)).congr (hbi hc (fun cs => ?_))
      rw [arr2 hx, map2]; rfl
    · exact absurd hL.symm hne
  · rename_i hc
    split at hL
    · rename_i x y hx
      subst hL
      refine valO_mem hne (fun v hv => ?_)
      obtain ⟨h1, h2⟩ := minmax_sound (P := P) (ts := c.argTypes) (ty := ty) hv (hρ x) (hρ y) w
      refine (out_val rfl h1 (.refl h2)).congr (hbi hc (fun cs => ?_))
      rw [arr2 hx, map2]; rfl
    · exact absurd hL.symm hne
  · rename_i f hc
    split at hL
    · rename_i g first cap hf
      split at hL
      · rename_i fn hfn
        subst hL
        refine ⟨_, List.mem_singleton.2 rfl, ?_⟩
        obtain ⟨hP, hname, body, hbody⟩ := hE.funcs g fn hfn
        have hv := hρ f
        rw [hf] at hv
        obtain ⟨first', cap', hv', hfst, hcap⟩ := hv.func_inv
        refine ⟨first' ++ c.args.map ρ' ++ cap', ?_, ?_⟩
        · have hb : ¬ fn.body = none := by rw [hbody]; simp
          have hnm : ¬ fn.name = "runtime.NumGoroutine" := by simpa using hname
          simp [resolve, hc, hv', Deferred.ofValue, invoke, callFunc, hP, hnm, hb]
        · simp only [Array.toList_append, Array.toList_map]
          exact (hfst.append (VRL.map hρ _)).append hcap
      · rename_i hfn
        split at hL
        · rename_i x hx
          subst hL
          refine ofO_mem hne (fun out ho => ?_)
          obtain ⟨fn, hP, hname, hbody, hnx, hfind⟩ := hE.exts g x hx
          have hv := hρ f
          rw [hf] at hv
          obtain ⟨first', cap', hv', hfst, hcap⟩ := hv.func_inv
          refine (extA_sound (P := P) (args' := first' ++ c.args.map ρ' ++ cap') h ho ?_).congr ?_
          · simp only [Array.toList_append, Array.toList_map]
            exact (hfst.append (VRL.map hρ _)).append hcap
          · have hnm : ¬ fn.name = "runtime.NumGoroutine" := by simpa using hname
            simp [resolve, hc, hv', Deferred.ofValue, invoke, callFunc, hP, hnm, hbody, hnx, hfind]
        · exact absurd hL.symm hne
    · rename_i name first cap hf
      split at hL
      · rename_i t v r hfr
        split at hL
        · rename_i g u hg
          split at hL
          · rename_i fn hfn
            subst hL
            refine ⟨_, List.mem_singleton.2 rfl, ?_⟩
            obtain ⟨hP, hname, body, hbody⟩ := hE.funcs g fn hfn
            have hv := hρ f
            rw [hf] at hv
            obtain ⟨first', cap', hv', hfst, hcap⟩ := hv.func_inv
            rw [hfr] at hfst
            obtain ⟨fl⟩ := first'
            match fl, hfst with
            | [], hfst => exact absurd hfst.1 (by simp)
            | x' :: r', hfst =>
            obtain ⟨v', rfl, hvv⟩ := hfst.head.iface_inv
            obtain ⟨u', hm, huu⟩ := methodA_sound (w := w) hE hg hvv (P.types.size + 99)
            refine ⟨#[u'] ++ (r'.toArray ++ c.args.map ρ'), ?_, ?_⟩
            · have hb : ¬ fn.body = none := by rw [hbody]; simp
              have hnm : ¬ fn.name = "runtime.NumGoroutine" := by simpa using hname
              have hz : ((Value.iface t v' :: r').toArray ++ c.args.map ρ')[0]? = some (.iface t v') := by rw [Array.getElem?_append_left (by simp only [List.size_toArray, List.length_cons]; omega)]; rfl
              have hex : ((Value.iface t v' :: r').toArray ++ c.args.map ρ').extract 1 ((Value.iface t v' :: r').toArray ++ c.args.map ρ').size = r'.toArray ++ c.args.map ρ' := by
                apply Array.ext'
                rw [Array.toList_extract]
                simp only [Array.toList_append, Array.toList_map, List.cons_append, List.extract, List.drop_succ_cons, List.drop_zero, Array.size_append, List.size_toArray, List.length_cons, Array.size_map]
                exact List.take_of_length_le (by simp only [List.length_append, List.length_map, Array.length_toList]; omega)
              have e1 : P.types.size + Made.depth = P.types.size + 99 + 1 := rfl
              have hr' : resolve ρ' c ty = pure { target := .fn (.method name) cap', args := (Value.iface t v' :: r').toArray ++ c.args.map ρ' } := by
                simp only [resolve, hc]; rw [hv']; rfl
              have hi : invoke (.fn (.method name) cap') ((Value.iface t v' :: r').toArray ++ c.args.map ρ') = callMethod (.iface t v') name (r'.toArray ++ c.args.map ρ') := by
                unfold invoke
                simp only [hz]
                rw [hex]
              rw [hr']
              simp only [Sem.run_bind, Sem.run_pure, Result.andThen_ok]
              rw [hi]
              simp [callMethod, e1, hm, callFunc, hP, hnm, hb]
            · simp only [Array.toList_append, Array.toList_map]
              exact (VRL.cons huu (VRL.nil σ)).append (hfst.tail.append (VRL.map hρ _))
          · exact absurd hL.symm hne
        · exact absurd hL.symm hne
      · exact absurd hL.symm hne
    · rename_i i hf
      subst hL
      refine ⟨_, List.mem_singleton.2 rfl, ?_⟩
      have hv := hρ f
      rw [hf] at hv
      obtain ⟨x, hx, hv'⟩ := hv.yld_inv
      refine ⟨c.args.map ρ', x, hx, ?_, by rw [Array.toList_map]; exact VRL.map hρ _⟩
      simp [resolve, hc, hv', Deferred.ofValue, invoke]
    · exact absurd hL.symm hne
  · rename_i r name hc
    split at hL
    · rename_i t v hr
      split at hL
      · rename_i g u hg
        split at hL
        · rename_i fn hfn
          subst hL
          refine ⟨_, List.mem_singleton.2 rfl, ?_⟩
          obtain ⟨hP, hname, body, hbody⟩ := hE.funcs g fn hfn
          have hv := hρ r
          rw [hr] at hv
          obtain ⟨v', hv', hvv⟩ := hv.iface_inv
          obtain ⟨u', hm, huu⟩ := methodA_sound (w := w) hE hg hvv (P.types.size + 99)
          refine ⟨#[u'] ++ c.args.map ρ', ?_, ?_⟩
          · have hb : ¬ fn.body = none := by rw [hbody]; simp
            have hnm : ¬ fn.name = "runtime.NumGoroutine" := by simpa using hname
            have hex : (#[Value.iface t v'] ++ c.args.map ρ').extract 1 (#[Value.iface t v'] ++ c.args.map ρ').size = c.args.map ρ' := by
              apply Array.ext'
              simp [List.extract]
              exact List.take_of_length_le (by simp)
            have hz : (#[Value.iface t v'] ++ c.args.map ρ')[0]? = some (.iface t v') := by rw [Array.getElem?_append_left (by simp)]; rfl
            have e1 : P.types.size + Made.depth = P.types.size + 99 + 1 := rfl
            have hr' : resolve ρ' c ty = pure { target := .fn (.method name) #[], args := #[ρ' r] ++ c.args.map ρ' } := by simp only [resolve, hc]
            have hi : invoke (.fn (.method name) #[]) (#[Value.iface t v'] ++ c.args.map ρ') = callMethod (.iface t v') name (c.args.map ρ') := by
              unfold invoke
              simp only [hz]
              rw [hex]
            rw [hr', hv']
            simp only [Sem.run_bind, Sem.run_pure, Result.andThen_ok]
            rw [hi]
            simp [callMethod, e1, hm, callFunc, hP, hnm, hb]
          · simp only [Array.toList_append, Array.toList_map]
            exact (VRL.cons huu (VRL.nil σ)).append (VRL.map hρ _)
        · exact absurd hL.symm hne
      · exact absurd hL.symm hne
    · exact absurd hL.symm hne
  · exact absurd hL.symm hne
theorem evOp_sound (hE : EOK E P) (h : MR E w0 σ m w) {ρ ρ' : Operand → Value} (hρ : ∀ x, VR σ (ρ x) (ρ' x)) (o : Oper) (hne : evOp E ρ o m ≠ []) : ∃ out ∈ evOp E ρ o m, OutOK E P w0 σ m w (execOp ρ' o) out := by
  generalize hL : evOp E ρ o m = L at hne ⊢
  unfold evOp at hL
  have one : ∀ {out : Out}, L = [out] → OutOK E P w0 σ m w (execOp ρ' o) out → ∃ out ∈ L, OutOK E P w0 σ m w (execOp ρ' o) out := fun h1 h2 => ⟨_, by rw [h1]; simp, h2⟩
  split at hL
  · rename_i x ho
    exact one hL.symm ⟨.value (ρ' x), ρ' x, by simp [execOp, ho], rfl, hρ x⟩
  · rename_i x ho
    exact one hL.symm ⟨.value (ρ' x), ρ' x, by simp [execOp, ho], rfl, hρ x⟩
  · rename_i c a b ho
    split at hL
    · rename_i t hc
      have hv := hρ c
      rw [hc] at hv
      have hc' := hv.simple_inv rfl
      refine one hL.symm ⟨.value (if t then ρ' a else ρ' b), _, by simp [execOp, ho, hc', asBool], rfl, ?_⟩
      cases t
      · exact hρ b
      · exact hρ a
    · rename_i hc
      have hv := hρ c
      rw [hc] at hv
      generalize hvc : ρ' c = vc at hv
      cases hv with
      | refl hs => simp [AE.simple] at hs
      | topB t =>
        cases t with
        | true => exact ⟨.val (ρ a), by rw [← hL]; simp, .value (ρ' a), _, by simp [execOp, ho, hvc, asBool], rfl, hρ a⟩
        | false => exact ⟨.val (ρ b), by rw [← hL]; simp, .value (ρ' b), _, by simp [execOp, ho, hvc, asBool], rfl, hρ b⟩
    · exact absurd hL.symm hne
  · rename_i t ho
    split at hL
    · rename_i ti hti
      obtain ⟨hu, i, z, hi, hsz, hby, hz, hzc, hzl, hzs, _⟩ := hE.types t ti hti
      have hor := OR.newRow (w := w) (e := t) hti (VRL.simple (σ := σ) hzs)
      have hza : ti.zero.toArray = z.cells := by rw [← hzc]
      rw [hza] at hor
      exact one hL.symm ⟨_, _, _, by simp [execOp, ho, Instr.alloc, zeroValue_run hi hz, newVar, Go.newRow], rfl, rfl, hor, fun σ' id hx => .ptr hx⟩
    · exact absurd hL.symm hne
  · rename_i t x ho
    split at hL
    · rename_i ti hti hb
      have hnb : ρ x ≠ bad := by intro e; rw [e] at hb; simp [isBad, bad] at hb
      have hor := OR.newRow (w := w) (e := t) hti ((hρ x).cells hnb)
      have hza : (ρ' x).cells.toList.toArray = (ρ' x).cells := by simp
      rw [hza] at hor
      exact one hL.symm ⟨_, _, _, by simp [execOp, ho, Instr.box, newVar, Go.newRow], rfl, rfl, hor, fun σ' id hx => .ptr hx⟩
    · exact absurd hL.symm hne
  · rename_i t parts ho
    subst hL
    refine valO_mem hne (fun v hv => ?_)
    obtain ⟨v', h1, h2⟩ := build_sound hE hv (VRP.map hρ parts) w
    exact (out_val rfl h1 h2).congr (by simp [execOp, ho])
  · rename_i t len parts ho
    subst hL
    refine ofO_mem hne (fun v hv => ?_)
    exact (buildSlice_sound hE hv (VRP.map hρ parts)).congr (by simp [execOp, ho])
  · rename_i t a ho
    split at hL
    · rename_i ad ha
      subst hL
      refine valO_mem hne (fun v hv => ?_)
      obtain ⟨v', h1, h2⟩ := loadAt_sound hE h hv (ha ▸ hρ a)
      exact (out_val rfl h1 h2).congr (by simp [execOp, ho])
    · exact absurd hL.symm hne
  · rename_i t a x ho
    split at hL
    · rename_i m' hs
      obtain ⟨w', h1, h2, h3⟩ := store_sound hE h hs (hρ a) (hρ x)
      exact one hL.symm ⟨.skip, und, w', σ, by simp [execOp, ho, h1], rfl, VR.undef σ, h2, h3⟩
    · exact absurd hL.symm hne
  · rename_i x ho
    have hv := hρ x
    split at hL
    · rename_i a hx
      rw [hx] at hv
      generalize hvc : ρ' x = vc at hv
      refine one hL.symm ⟨.value vc, vc, ?_, rfl, hv⟩
      cases hv with
      | refl hs => simp [AE.simple] at hs
      | ptr hy => simp [execOp, ho, hvc]
    · rename_i g a b hx
      rw [hx] at hv
      obtain ⟨a', b', hvc, _, _⟩ := hv.func_inv
      refine one hL.symm ⟨.value (ρ' x), ρ' x, ?_, rfl, hv⟩
      simp [execOp, ho, hvc]
    · rename_i name a b hx
      rw [hx] at hv
      split at hL
      · rename_i t v r hfr
        split at hL
        · rename_i q hg
          obtain ⟨first', cap', hvc, hfst, _⟩ := hv.func_inv
          rw [hfr] at hfst
          obtain ⟨fl⟩ := first'
          match fl, hfst with
          | [], hfst => exact absurd hfst.1 (by simp)
          | x' :: r', hfst =>
          obtain ⟨v', rfl, hvv⟩ := hfst.head.iface_inv
          have ha := methodA_ahead (w := w) hE hg hvv (P.types.size + 99)
          have e1 : P.types.size + Made.depth = P.types.size + 99 + 1 := rfl
          refine one hL.symm ⟨.value (ρ' x), ρ' x, ?_, rfl, hv⟩
          simp [execOp, ho, hvc, e1, ha]
        · exact absurd hL.symm hne
      · exact absurd hL.symm hne
    · rename_i t v hx
      rw [hx] at hv
      obtain ⟨v', hvc, _⟩ := hv.iface_inv
      refine one hL.symm ⟨.value (ρ' x), ρ' x, ?_, rfl, hv⟩
      simp [execOp, ho, hvc]
    · rename_i i hx
      rw [hx] at hv
      obtain ⟨y, _, hvc⟩ := hv.yld_inv
      refine one hL.symm ⟨.value (ρ' x), ρ' x, ?_, rfl, hv⟩
      simp [execOp, ho, hvc]
    · exact absurd hL.symm hne
  · rename_i op t x y yt ho
    subst hL
    refine valO_mem hne (fun v hv => ?_)
    obtain ⟨v', h1, h2⟩ := binopC_sound (P := P) (ox := x) (oy := y) hE hv (hρ x) (hρ y) w
    exact (out_val rfl h1 h2).congr (by simp [execOp, ho])
  · rename_i op t x ho
    have hv := hρ x
    split at hL
    · rename_i b hx
      rw [hx] at hv
      have hc' := hv.simple_inv rfl
      exact one hL.symm (out_val (s0 := Op.unary .not (ρ' x)) (by simp [execOp, ho]) (by rw [hc']; rfl) (.refl rfl))
    · rename_i hx
      rw [hx] at hv
      generalize hvc : ρ' x = vc at hv
      cases hv with
      | refl hs => simp [AE.simple] at hs
      | topB b => exact one hL.symm (out_val (s0 := Op.unary .not (ρ' x)) (by simp [execOp, ho]) (by rw [hvc]; rfl) (.topB _))
    · rename_i k n hx
      rw [hx] at hv
      have hc' := hv.simple_inv rfl
      exact one hL.symm (out_val (s0 := Op.unary .neg (ρ' x)) (by simp [execOp, ho]) (by rw [hc']; rfl) (.refl rfl))
    · rename_i k n hx
      rw [hx] at hv
      have hc' := hv.simple_inv rfl
      subst hL
      refine valO_mem hne (fun v hv => ?_)
      simp only [intBin, Option.some.injEq] at hv
      subst hv
      exact out_val (s0 := Op.unary .xor (ρ' x)) (by simp [execOp, ho]) (by rw [hc']; rfl) (.refl rfl)
    · exact absurd hL.symm hne
  · rename_i src dst x ho
    subst hL
    refine ofO_mem hne (fun v hv => ?_)
    exact (convert_sound hE h hv (hρ x)).congr (by simp [execOp, ho])
  · rename_i t x ho
    split at hL
    · rename_i ti hti
      obtain ⟨hu, _⟩ := hE.types t ti hti
      split at hL
      · rename_i hif
        refine one hL.symm (out_val (s0 := Instr.makeInterface t (ρ' x)) (by simp [execOp, ho]) (v' := .iface t (ρ' x)) ?_ (.iface (hρ x)))
        simp only [Instr.makeInterface, Sem.run_bind, run_underlying hu, Result.andThen_ok]
        cases hd : ti.desc <;> first | (rw [hd] at hif; cases hif; done) | rfl
      · exact absurd hL.symm hne
    · exact absurd hL.symm hne
  · rename_i fn first captured ho
    refine one hL.symm (out_val (s0 := Instr.makeFunc fn (first.map ρ') (captured.map ρ')) (by simp [execOp, ho]) rfl ?_)
    have h1 := VRL.map hρ first.toList
    have h2 := VRL.map hρ captured.toList
    rw [← Array.toList_map, ← Array.toList_map] at h1 h2
    exact .func h1.arr_size h1.arr_get h2.arr_size h2.arr_get
  · rename_i t ho
    exact one hL.symm ⟨_, .map #[] 0, ⟨w.heap.size, 0, 0, 0⟩, by simp [execOp, ho, Instr.makeMap], rfl, rfl, ⟨rfl, rfl, fun i a b ha => by simp at ha⟩, fun σ' id hx => .map hx⟩
  · rename_i t l c ho
    subst hL
    refine ofO_mem hne (fun v hv => ?_)
    exact (makeSlice_sound hE hv (hρ l) (hρ c)).congr (by simp [execOp, ho])
  · rename_i t x lo hi mx ho
    subst hL
    obtain ⟨out, h1, h2⟩ := sliceA_sound hE h hne (hρ x) (VRO.map hρ lo) (VRO.map hρ hi) (VRO.map hρ mx)
    exact ⟨out, h1, h2.congr (by simp [execOp, ho])⟩
  · rename_i t x f ho
    subst hL
    refine valO_mem hne (fun v hv => ?_)
    obtain ⟨v', h1, h2⟩ := fieldAddr_sound (P := P) hE hv (hρ x) w
    exact (out_val rfl h1 h2).congr (by simp [execOp, ho])
  · rename_i t x f ho
    subst hL
    refine valO_mem hne (fun v hv => ?_)
    obtain ⟨v', h1, h2⟩ := field_sound (P := P) hE hv (hρ x) w
    exact (out_val rfl h1 h2).congr (by simp [execOp, ho])
  · rename_i t x i ho
    subst hL
    refine valO_mem hne (fun v hv => ?_)
    obtain ⟨v', h1, h2⟩ := indexAddr_sound (P := P) hE hv (hρ x) (hρ i) w
    exact (out_val rfl h1 h2).congr (by simp [execOp, ho])
  · rename_i t x i ho
    subst hL
    refine valO_mem hne (fun v hv => ?_)
    obtain ⟨v', h1, h2⟩ := index_sound (P := P) hE hv (hρ x) (hρ i) w
    exact (out_val rfl h1 h2).congr (by simp [execOp, ho])
  · rename_i t x k ok ho
    subst hL
    refine valO_mem hne (fun v hv => ?_)
    obtain ⟨v', h1, h2⟩ := lookup_sound hE h hv (hρ x) (hρ k)
    exact (out_val rfl h1 h2).congr (by simp [execOp, ho])
  · rename_i t x k v ho
    split at hL
    · rename_i m' hs
      obtain ⟨w', h1, h2, h3⟩ := mapUpdate_sound hE h hs (hρ x) (hρ k) (hρ v)
      exact one hL.symm ⟨.skip, und, w', σ, by simp [execOp, ho, h1], rfl, VR.undef σ, h2, h3⟩
    · exact absurd hL.symm hne
  · rename_i t x k v ho
    split at hL
    · rename_i m' hs
      obtain ⟨w', h1, h2, h3⟩ := mapUpdate_sound hE h hs (hρ x) (hρ k) (hρ v)
      exact one hL.symm ⟨.skip, und, w', σ, by simp [execOp, ho, h1], rfl, VR.undef σ, h2, h3⟩
    · exact absurd hL.symm hne
  · rename_i t i ho
    split at hL
    · rename_i vs ht
      split at hL
      · rename_i v hv
        have hr := hρ t
        rw [ht] at hr
        obtain ⟨vs', hvs, hl⟩ := hr.tuple_inv
        obtain ⟨v', h1, h2⟩ := hl.getElem? hv
        have h1' : vs'[i]? = some v' := by simpa using h1
        exact one hL.symm (out_val (s0 := Instr.extract (ρ' t) i) (by simp [execOp, ho]) (by simp [hvs, Instr.extract, h1']) h2)
      · exact absurd hL.symm hne
    · exact absurd hL.symm hne
  · rename_i t x ho
    subst hL
    refine ofO_mem hne (fun v hv => ?_)
    exact (range_sound hE h hv (hρ x)).congr (by simp [execOp, ho])
  · rename_i it isString ho
    subst hL
    obtain ⟨out, h1, h2⟩ := next_sound (ty := o.type) h hne (hρ it)
    exact ⟨out, h1, h2.congr (by simp [execOp, ho])⟩
  · rename_i it ho
    subst hL
    refine valO_mem hne (fun v hv => ?_)
    obtain ⟨v', h1, h2⟩ := entry_sound (P := P) h hv (hρ it)
    exact (out_val rfl h1 h2).congr (by simp [execOp, ho])
  · rename_i x xt asserted ok ho
    subst hL
    refine valO_mem hne (fun v hv => ?_)
    obtain ⟨v', h1, h2⟩ := assertA_sound (P := P) (xt := xt) hE hv (hρ x) w
    exact (out_val rfl h1 h2).congr (by simp [execOp, ho])
  · rename_i c ho
    subst hL
    obtain ⟨out, h1, h2⟩ := callA_sound hE h hρ c o.type hne
    exact ⟨out, h1, h2.congr (by simp [execOp, ho])⟩
  · exact absurd hL.symm hne
end Go.AE
