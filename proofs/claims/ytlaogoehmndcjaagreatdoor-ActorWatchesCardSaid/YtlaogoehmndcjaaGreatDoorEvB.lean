/- YtlaogoehmndcjaaGreatDoorASOps9; YtlaogoehmndcjaaGreatDoorASCode; YtlaogoehmndcjaaGreatDoorASDrawA; YtlaogoehmndcjaaGreatDoorASDrawB; YtlaogoehmndcjaaGreatDoorASDrawC; YtlaogoehmndcjaaGreatDoorASDrawD; YtlaogoehmndcjaaGreatDoorASDrawE; YtlaogoehmndcjaaGreatDoorASDrawF: in one text. -/
import Derived.Test.YtlaogoehmndcjaaGreatDoorEvA
import Derived.Laws.Strings2
import Derived.OrdersIn
import Derived.RangeFuncLeaves
import Derived.Orders
set_option linter.unusedVariables false
set_option linter.unusedSectionVars false
set_option linter.unusedSectionVars false
namespace Go.AS
open Go.RowKit
variable [Rho]
variable {E : Env} {P : Program} {w0 : World} {σ : Sg} {m : Mem} {w : World}
theorem OutOK.congr {s s' : Sem Next} {out : Out} (he : s'.run P w = s.run P w) (h : OutOK E P w0 σ m w s out) : OutOK E P w0 σ m w s' out := by
  cases out with
  | val v => obtain ⟨nx, v', h1, h2, h3⟩ := h; exact ⟨nx, v', he.trans h1, h2, h3⟩
  | new o mk => obtain ⟨v', ob, x, h1, h2⟩ := h; exact ⟨v', ob, x, he.trans h1, h2⟩
  | eff v m' => obtain ⟨nx, v', w', σ', h1, h2⟩ := h; exact ⟨nx, v', w', σ', he.trans h1, h2⟩
  | enter f args =>
    cases f with
    | fn f => obtain ⟨args', h1, h2⟩ := h; exact ⟨args', he.trans h1, h2⟩
    | yld i => obtain ⟨args', x, h0, h1, h2⟩ := h; exact ⟨args', x, h0, he.trans h1, h2⟩
theorem ofO_cong {o : Option Out} {s s' : Sem Next} (hne : ofO o ≠ []) (he : s'.run P w = s.run P w) (h : ∀ x, o = some x → OutOK E P w0 σ m w s x) : ∃ x ∈ ofO o, OutOK E P w0 σ m w s' x :=
  ofO_mem hne (fun x hx => (h x hx).congr he)
theorem arr2 {α : Type} {a : Array α} {x y : α} (h : a.toList = [x, y]) : a = #[x, y] := Array.ext' (by simpa using h)
theorem arr1 {α : Type} {a : Array α} {x : α} (h : a.toList = [x]) : a = #[x] := Array.ext' (by simpa using h)
theorem map1 (ρ : Operand → Value) (x : Operand) : (#[x].map ρ) = #[ρ x] := by simp
theorem map2 (ρ : Operand → Value) (x y : Operand) : (#[x, y].map ρ) = #[ρ x, ρ y] := by simp
theorem VRL.map {ρ ρ' : Operand → Value} (hρ : ∀ x, VR σ (ρ x) (ρ' x)) (l : List Operand) : VRL σ (l.map ρ) (l.map ρ') := by
  induction l with
  | nil => exact VRL.nil σ
  | cons x l ih => exact VRL.cons (hρ x) ih
theorem VRP.map {ρ ρ' : Operand → Value} (hρ : ∀ x, VR σ (ρ x) (ρ' x)) (l : Array (Nat × Operand)) : VRP σ (l.toList.map fun p => (p.1, ρ p.2)) (l.map fun p => (p.1, ρ' p.2)).toList := by
  rw [Array.toList_map]
  refine ⟨by simp, fun i a b ha hb => ?_⟩
  rw [List.getElem?_map] at ha hb
  cases h : l.toList[i]? with
  | none => rw [h] at ha; cases ha
  | some p => rw [h] at ha hb; cases ha; cases hb; exact ⟨rfl, hρ _⟩
theorem VRO.map {ρ ρ' : Operand → Value} (hρ : ∀ x, VR σ (ρ x) (ρ' x)) (x : Option Operand) : VRO σ (x.map ρ) (x.map ρ') := by
  cases x with
  | none => exact .inl ⟨rfl, rfl⟩
  | some x => exact .inr ⟨_, _, rfl, rfl, hρ x⟩
theorem map_isNone (x y : Option Operand) (ρ : Operand → Value) : ((x.map ρ).isNone && (y.map ρ).isSome) = (x.isNone && y.isSome) := by cases x <;> cases y <;> rfl
theorem sliceA_sound (hE : EOK E P) (h : MR E w0 σ m w) {t : TypeId} {x x' : Value} {lo hi mx lo' hi' mx' : Option Value} (hne : sliceA E t x lo hi mx m ≠ []) (hx : VR σ x x') (hlo : VRO σ lo lo') (hhi : VRO σ hi hi') (hmx : VRO σ mx mx') :
    ∃ out ∈ sliceA E t x lo hi mx m, OutOK E P w0 σ m w (do pure (.value (← Instr.sliceAt t x' lo' hi' mx'))) out := by
  generalize hL : sliceA E t x lo hi mx m = L at hne ⊢
  unfold sliceA at hL
  split at hL
  · rename_i ti hti hmh
    obtain ⟨hu, _⟩ := hE.types t ti hti
    have hmh' : hi' = none → mx' = none := by
      intro he
      rcases hhi with ⟨h1, _⟩ | ⟨_, _, _, h2, _⟩
      · rcases hmx with ⟨_, h3⟩ | ⟨_, _, h3, _⟩
        · exact h3
        · subst h1 h3; cases hmh
      · rw [he] at h2; cases h2
    split at hL
    · rename_i e hd
      split at hL
      · rename_i te hte
        subst hL
        exact sliceS_sound hE h (by rw [hu, hd]) hte hne hx hlo hhi hmx hmh
      · exact absurd hL.symm hne
    · rename_i hd
      split at hL
      · rename_i s
        obtain rfl := hx.simple_inv rfl
        have hmx' : mx' = none := by
          rcases hmx with ⟨_, h⟩ | ⟨_, _, h, _⟩
          · exact h
          · cases h
        have hss : s.size = s.data.toList.length := by cases s; rfl
        split at hL
        · rename_i hh hbh
          split at hL
          · rename_i l hbl
            subst hL
            refine ⟨_, List.mem_singleton.2 rfl, ?_⟩
            have h2 := bound_sound hbh hhi
            have h3 := bound_sound hbl hlo
            have hb := run_bounds (P := P) (isS := false) (len := s.size) (cap := s.size) (mx := none) (hi := hi') (lo := lo') (m := s.size) (h := hh) (l := l) (.inl ⟨rfl, rfl⟩) (h2.imp (fun ⟨_, a, b⟩ => ⟨a, by omega⟩) (fun ⟨k, a, b⟩ => ⟨k, a, by omega⟩)) (fun _ => rfl) (h3.imp (fun ⟨_, a, b⟩ => ⟨a, b⟩) id) w
            refine out_val rfl (v' := .string (s.extract l hh)) ?_ ?_
            · subst hmx'
              simp [Instr.sliceAt, Instr.slice, run_underlying hu, hd, hb]
            · have : s.extract l hh = ⟨((s.data.toList.drop l).take (hh - l)).toArray⟩ := by
                have h9 := Go.ByteArray.extract_mk s.data.toList l hh
                simpa using h9
              rw [this]
              exact .refl rfl
          · exact absurd hL.symm hne
        · exact absurd hL.symm hne
      · exact absurd hL.symm hne
    · rename_i n e hd
      split at hL
      · rename_i a te hte hn
        have hn' := Nat.le_of_ble_eq_true hn
        obtain ⟨_, i, z, hi0, hsz, _⟩ := hE.types e te hte
        split at hL
        · rename_i mm hbm
          split at hL
          · rename_i hh hbh
            split at hL
            · rename_i l hbl
              subst hL
              refine ⟨_, List.mem_singleton.2 rfl, ?_⟩
              have h1 := bound_sound hbm hmx
              have h2 := bound_sound hbh hhi
              have h3 := bound_sound hbl hlo
              have hmn : mm ≤ n := by rcases h1 with ⟨_, _, h⟩ | ⟨_, _, h⟩ <;> omega
              have hb := run_bounds (P := P) (isS := false) (len := n) (cap := n) (h1.imp (fun ⟨_, a, b⟩ => ⟨a, b⟩) id) (h2.imp (fun ⟨_, a, b⟩ => ⟨a, b⟩) id) hmh' (h3.imp (fun ⟨_, a, b⟩ => ⟨a, b⟩) id) w
              cases hx with
              | refl h0 => simp [AS.simple] at h0
              | ptr hy =>
                rename_i j o y
                have hrun : (Instr.sliceAt t (.pointer (some ⟨y.b, y.sh + o, none⟩)) lo' hi' mx').run P w = .ok (.slice (some (if mm = l then ⟨y.b, y.sh + o, none⟩ else (⟨y.b, y.sh + o, none⟩ : Addr).add (l * i.size))) (hh - l) (mm - l)) w := by
                  simp [Instr.sliceAt, run_underlying hu, hd, Instr.sureAddr, hb, sizeOf_run hi0]
                refine out_val rfl hrun ?_
                by_cases e1 : mm = l
                · subst e1
                  simp only [if_true, Nat.beq_refl, cond]
                  exact .slice hy (fun _ => rfl) (fun ho => absurd ho (by unfold OPEN; omega))
                · have : Nat.beq mm l = false := by
                    cases hb2 : Nat.beq mm l with
                    | false => rfl
                    | true => exact absurd (Nat.eq_of_beq_eq_true hb2) e1
                  simp only [e1, if_false, this, cond, addr_add, hsz, Nat.add_assoc]
                  exact .slice hy (fun _ => rfl) (fun ho => absurd ho (by unfold OPEN; omega))
            · exact absurd hL.symm hne
          · exact absurd hL.symm hne
        · exact absurd hL.symm hne
      · exact absurd hL.symm hne
    · exact absurd hL.symm hne
  · exact absurd hL.symm hne
theorem methodA_sound (hE : EOK E P) {t : TypeId} {name : String} {g : FuncId} {v v' u : Value} (h : methodA E t name v = some (g, u)) (hv : VR σ v v') (n : Nat) (w : World) :
    ∃ u', (method (n + 1) t v' name).run P w = .ok (g, u') w ∧ VR σ u u' := by
  unfold methodA at h
  split at h
  · rename_i i ti hi hti
    rw [hE.prog] at hi
    obtain ⟨hu, _⟩ := hE.types t ti hti
    split at h
    · rename_i mt hm
      have hm' : i.methods.find? (fun m => m.name == name) = some mt := by simpa using hm
      split at h
      · rename_i f ptr hp hf
        have hp' : mt.path = #[] := Array.ext' hp
        split at h
        · rename_i e hd
          cases h
          rw [hd] at hu
          exact ⟨v', by simp [method, typeInfo, hi, hm', hp', follow, hf, receiverAt, run_underlying hu, Place.get], hv⟩
        · cases h
        · rename_i hd
          cases h
          refine ⟨v', ?_, hv⟩
          generalize ti.desc = d at hu hd
          cases d <;> first | exact absurd rfl (hd _) | simp [method, typeInfo, hi, hm', hp', follow, hf, receiverAt, run_underlying hu, Place.get]
        · cases h
      · rename_i st f hp hf
        have hp' : mt.path = #[st] := Array.ext' hp
        split at h
        · rename_i ts a hdf hts
          obtain ⟨hus, _⟩ := hE.types _ _ hts
          split at h
          · rename_i fs hd
            split at h
            · rename_i fd hfd
              split at h
              · rename_i tf htf
                obtain ⟨huf, j, z, hj, hsz, _⟩ := hE.types _ _ htf
                split at h
                · rename_i hne hnp
                  cases h
                  cases hv with
                  | refl hs => simp [AS.simple] at hs
                  | ptr hσ =>
                    refine ⟨_, ?_, .ptr hσ⟩
                    have hn : ¬ j.size = 0 := by rw [hsz]; exact Nat.ne_of_beq_eq_false hne
                    rw [hd] at hus
                    generalize tf.desc = dd at huf hnp
                    cases dd <;> first | (cases hnp; done) | simp [method, typeInfo, hi, hm', hp', follow, hf, receiverAt, run_underlying hus, run_underlying huf, Place.get, hfd, hdf, asAddr, fieldPlace, sizeOf_run hj, hn, addr_add, Nat.add_assoc]
                · cases h
              · cases h
            · cases h
          · cases h
        · cases h
      · cases h
    · cases h
  · cases h
theorem methodA_ahead (hE : EOK E P) {t : TypeId} {name : String} {r : FuncId × Value} {v v' : Value} (h : methodA E t name v = some r) (hv : VR σ v v') (n : Nat) (w : World) :
    (nilAhead (n + 1) t v' name).run P w = .ok (some false) w := by
  unfold methodA at h
  split at h
  · rename_i i ti hi hti
    rw [hE.prog] at hi
    obtain ⟨hu, _⟩ := hE.types t ti hti
    split at h
    · rename_i mt hm
      have hm' : i.methods.find? (fun m => m.name == name) = some mt := by simpa using hm
      split at h
      · rename_i f ptr hp hf
        have hp' : mt.path = #[] := Array.ext' hp
        split at h
        · simp [nilAhead, typeInfo, hi, hm', hp', followBlind, hf]
        · cases h
        · rename_i hd
          generalize ti.desc = d at hu hd
          cases d <;> first | exact absurd rfl (hd _) | simp [nilAhead, typeInfo, hi, hm', hp', followBlind, hf, run_underlying hu]
        · cases h
      · rename_i st f hp hf
        have hp' : mt.path = #[st] := Array.ext' hp
        split at h
        · rename_i ts a hdf hts
          obtain ⟨hus, _⟩ := hE.types _ _ hts
          split at h
          · rename_i fs hd
            split at h
            · rename_i fd hfd
              rw [hd] at hus
              cases hv with
              | refl hs => simp [AS.simple] at hs
              | ptr hσ => simp [nilAhead, typeInfo, hi, hm', hp', followBlind, hf, run_underlying hus, hfd, hdf]
            · cases h
          · cases h
        · cases h
      · cases h
    · cases h
  · cases h
theorem noT_sound (hE : EOK E P) {asserted : TypeId} {ta : TI} (hta : E.types.get asserted = some ta) {ok : Bool} {v : Value} (h : noT ok (zeroOf ta) = some v) {s : Sem Value} (w : World)
    (hs : ok = true → s.run P w = (do pure (.tuple #[← zeroValue asserted, .bool false]) : Sem Value).run P w) : ∃ v', s.run P w = .ok v' w ∧ VR σ v v' := by
  cases ok with
  | false => cases h
  | true =>
    obtain ⟨z, hz, hzv⟩ := zeroOf_sound (σ := σ) hE hta w
    cases h
    refine ⟨.tuple #[z, .bool false], ?_, .tuple_of (VRL.cons hzv (VRL.cons (.refl rfl) (VRL.nil σ)))⟩
    rw [hs rfl]
    simp [hz]
theorem yesT_sound {ok : Bool} {v u v' : Value} (h : yesT ok v = some u) (hv : VR σ v v') : VR σ u (if ok = true then .tuple #[v', .bool true] else v') := by
  cases ok <;> cases h
  · exact hv
  · exact .tuple_of (VRL.cons hv (VRL.cons (.refl rfl) (VRL.nil σ)))
theorem range_sound (hE : EOK E P) (h : MR E w0 σ m w) {t : TypeId} {x x' : Value} {out : Out} (ha : rangeA E t x m = some out) (hx : VR σ x x') : OutOK E P w0 σ m w (do pure (.value (← Instr.range t x'))) out := by
  unfold rangeA at ha
  split at ha
  · cases ha
  · rename_i ti hti
    obtain ⟨hu, _⟩ := hE.types _ _ hti
    split at ha
    · rename_i s hd
      rw [hd] at hu
      obtain rfl := hx.simple_inv rfl
      cases ha
      exact ⟨_, .stringIter s 0, ⟨w.heap.size, 0, 0, 0⟩, by simp [Instr.range, run_underlying hu], rfl, rfl, ⟨rfl, rfl, rfl⟩, fun σ' id hy => .ptr hy⟩
    · rename_i hd
      rw [hd] at hu
      obtain rfl := hx.simple_inv rfl
      cases ha
      exact ⟨_, .mapIter none 0 #[] 0, ⟨w.heap.size, 0, 0, 0⟩, by simp [Instr.range, run_underlying hu], rfl, rfl, rfl, fun σ' id hy => .ptr hy⟩
    · rename_i r hd
      rw [hd] at hu
      split at ha
      · rename_i es clock hr
        cases ha
        cases hx with
        | refl hs => simp [AS.simple] at hs
        | map hy =>
          rename_i y
          obtain ⟨es', hob, her⟩ := h.mapObj hr hy
          exact ⟨_, .mapIter (some y.b) clock #[] clock, ⟨w.heap.size, 0, 0, 0⟩, by simp [Instr.range, run_underlying hu, run_getObj_map hob], rfl, rfl, ⟨⟨y, hy, rfl⟩, rfl, rfl, rfl, rfl⟩, fun σ' id hz => .ptr hz⟩
      · cases ha
    · cases ha
theorem run_getObj {w : World} {r : Nat} {o : Obj} (h : w.heap[r]? = some o) (hn : ∀ a b c, o ≠ .cells a b c := by intro a b c h; cases h) : (getObj r).run P w = .ok o w := by
  cases o <;> first | exact absurd rfl (hn _ _ _) | simp [getObj, Sem.run, h]
theorem choose_next {n : Nat} (hn : 0 < n) (w : World) : ∃ (j : Nat) (w1 : World), j < n ∧ (w1 = w ∨ w1 = w.drew) ∧ (choose (Question.mapNext n)).run P w = .ok j w1 := by
  by_cases hf : n ≤ 1
  · exact ⟨0, w, by omega, Or.inl rfl, by simp [choose, Sem.run, Question.forced, hf]⟩
  · exact ⟨_, w.drew, Nat.mod_lt _ hn, Or.inr rfl, by
      simp only [choose, Sem.run, Question.forced, decide_eq_true_eq, hf, if_false, Question.cut]
      rfl⟩
theorem memB_iff {x : Nat} : ∀ {l : List Nat}, memB x l = l.contains x := by
  intro l
  induction l with
  | nil => rfl
  | cons y l ih =>
    have hb : Nat.beq x y = (x == y) := by cases e : Nat.beq x y with | true => simp [Nat.eq_of_beq_eq_true e] | false => simp [Nat.ne_of_beq_eq_false e]
    simp only [memB, List.contains_cons, ih, hb]
    cases x == y <;> rfl
theorem leftOf_sound {seen : List Nat} {seen' : Array Nat} (hs : seen'.toList = seen) : ∀ {es es' : List MapEntry}, ERL σ es es' → ERL σ (leftOf seen es) (es'.filter fun e => !seen'.contains e.born) := by
  intro es
  induction es with
  | nil => intro es' h; obtain rfl := h.nil_inv; exact h
  | cons e es ih =>
    intro es' h
    obtain ⟨e', es', rfl⟩ := h.cons_inv
    have hm : memB e.born seen = seen'.contains e'.born := by rw [memB_iff, ← h.head.1, ← hs, Array.contains_toList]
    simp only [leftOf, List.filter_cons, hm]
    cases seen'.contains e'.born with
    | true => exact ih h.tail
    | false => exact ERL.cons h.head (ih h.tail)
theorem oldOf_sound {since : Nat} : ∀ {es es' : List MapEntry}, ERL σ es es' → ERL σ (oldOf since es) (es'.filter fun e => decide (e.born < since)) := by
  intro es
  induction es with
  | nil => intro es' h; obtain rfl := h.nil_inv; exact h
  | cons e es ih =>
    intro es' h
    obtain ⟨e', es', rfl⟩ := h.cons_inv
    have hm : Nat.blt e.born since = decide (e'.born < since) := by
      rw [h.head.1]
      by_cases hlt : e'.born < since
      · rw [decide_eq_true hlt]; exact Nat.ble_eq_true_of_le hlt
      · rw [decide_eq_false hlt]
        cases hb : Nat.blt e'.born since with
        | false => rfl
        | true => exact absurd (Nat.le_of_ble_eq_true hb) hlt
    simp only [oldOf, List.filter_cons, hm]
    cases decide (e'.born < since) with
    | true => exact ERL.cons h.head (ih h.tail)
    | false => exact ih h.tail
theorem newOf_sound {since : Nat} : ∀ {es es' : List MapEntry}, ERL σ es es' → ERL σ (newOf since es) (es'.filter fun e => decide (e.born ≥ since)) := by
  intro es
  induction es with
  | nil => intro es' h; obtain rfl := h.nil_inv; exact h
  | cons e es ih =>
    intro es' h
    obtain ⟨e', es', rfl⟩ := h.cons_inv
    have hm : Nat.blt e.born since = !decide (e'.born ≥ since) := by
      rw [h.head.1]
      by_cases hlt : e'.born < since
      · rw [decide_eq_false (by omega)]; exact Nat.ble_eq_true_of_le hlt
      · rw [decide_eq_true (by omega)]
        cases hb : Nat.blt e'.born since with
        | false => rfl
        | true => exact absurd (Nat.le_of_ble_eq_true hb) hlt
    simp only [newOf, List.filter_cons, hm]
    cases decide (e'.born ≥ since) with
    | true => exact ERL.cons h.head (ih h.tail)
    | false => exact ih h.tail
theorem isNil_sound {es es' : List MapEntry} (h : ERL σ es es') : isNil es = es'.isEmpty := by
  cases es with
  | nil => obtain rfl := h.nil_inv; rfl
  | cons e es => obtain ⟨e', es', rfl⟩ := h.cons_inv; rfl
theorem allBorn_sound {last : Nat} : ∀ {es es' : List MapEntry}, ERL σ es es' → allBorn last es = es'.all fun e => decide (e.born ≥ last) := by
  intro es
  induction es with
  | nil => intro es' h; obtain rfl := h.nil_inv; rfl
  | cons e es ih =>
    intro es' h
    obtain ⟨e', es', rfl⟩ := h.cons_inv
    have hm : Nat.ble last e.born = decide (e'.born ≥ last) := by
      rw [h.head.1]
      by_cases hlt : last ≤ e'.born
      · rw [decide_eq_true hlt]; exact Nat.ble_eq_true_of_le hlt
      · rw [decide_eq_false hlt]
        cases hb : Nat.ble last e'.born with
        | false => rfl
        | true => exact absurd (Nat.le_of_ble_eq_true hb) hlt
    simp only [allBorn, List.all_cons, hm, ih h.tail]
    cases decide (e'.born ≥ last) <;> rfl
theorem nextEnts_mem {m : Mem} {i r since : Nat} {seen : List Nat} {clock : Nat} : ∀ {l : List MapEntry} {j : Nat} {e : MapEntry}, l[j]? = some e → Out.eff (.tuple #[.bool true, e.key, e.val]) ⟨m.n, m.t.set i (.mit (some r) since (seen ++ [e.born]) clock)⟩ ∈ nextEnts m i r since seen clock l := by
  intro l
  induction l with
  | nil => intro j e h; cases h
  | cons a l ih =>
    intro j e h
    cases j with
    | zero => cases h; simp [nextEnts]
    | succ j => exact List.mem_cons_of_mem _ (ih h)
theorem MR.iter (h : MR E w0 σ m w) {i : Nat} {o : AObj} (hr : m.t.get i = some o) (ho : o.live = true) {x : Inf} (hx : σ i = some x) : ∃ ob, w.heap[x.b]? = some ob ∧ OR E σ x o ob ∧ x.b < w.heap.size := by
  obtain ⟨y, ob, hy, hB, hob, hor⟩ := h.obj i _ hr ho
  obtain rfl : y = x := by rw [hx] at hy; exact (Option.some.inj hy).symm
  exact ⟨ob, hob, hor, (Array.getElem?_eq_some_iff.1 hob).1⟩
theorem run_setObj {w : World} {r : Nat} {o o' : Obj} (h : w.heap[r]? = some o) (hn : ∀ a b c, o ≠ .cells a b c) : (setObj r o').run P w = .ok () { w with heap := w.heap.setIfInBounds r o' } := by
  cases o <;> first | exact absurd rfl (hn _ _ _) | simp [setObj, Sem.run, h]
theorem MR.turnObj (h : MR E w0 σ m w) {i : Nat} {o o' : AObj} (hr : m.t.get i = some o) (ho : o.live = true) (ho' : o'.live = true) {x : Inf} (hx : σ i = some x) (hlt : x.b < w.heap.size) {ob : Obj} (hor : OR E σ x o' ob) :
    MR E w0 σ ⟨m.n, m.t.set i o'⟩ { w with heap := w.heap.setIfInBounds x.b ob } ∧ FG σ m w σ ⟨m.n, m.t.set i o'⟩ { w with heap := w.heap.setIfInBounds x.b ob } :=
  h.turn hr ho hx ho' (by simp) (fun k hk => by simp [Ne.symm hk]) rfl rfl rfl (ob := ob) (by simp [hlt]) hor
theorem FG.drew (σ : Sg) (m : Mem) (w : World) : FG σ m w σ m w.drew := ⟨Ext.refl σ, Nat.le_refl _, fun _ _ _ => rfl, fun _ h => .inl h, Nat.le_refl _, fun _ _ => rfl⟩
set_option maxHeartbeats 1000000 in
theorem next_sound (h : MR E w0 σ m w) {ty : TypeId} {it it' : Value} {isString : Bool} (hne : nextA it isString m ≠ []) (hx : VR σ it it') :
    ∃ out ∈ nextA it isString m, OutOK E P w0 σ m w (do pure (.value (← Instr.next it' isString ty))) out := by
  generalize hL : nextA it isString m = L at hne ⊢
  unfold nextA at hL
  split at hL
  · rename_i i
    cases hx with
    | refl hs => simp [AS.simple] at hs
    | ptr hσ =>
      rename_i x
      split at hL
      · rename_i s p hr
        obtain ⟨ob, hob, hor, hlt⟩ := h.iter hr rfl hσ
        cases ob with
        | stringIter s' p' =>
          obtain ⟨rfl, rfl, hsh⟩ := hor
          have hg := run_getObj (P := P) hob
          split at hL
          · rename_i hp
            subst hL
            have hp' : p' < s'.size := Nat.le_of_ble_eq_true hp
            obtain ⟨hm', hf'⟩ := h.turnObj (o' := .sit s' (p' + (Utf8.decode s' p').2)) (ob := .stringIter s' (p' + (Utf8.decode s' p').2)) hr rfl rfl hσ hlt ⟨rfl, rfl, hsh⟩
            refine ⟨_, List.mem_singleton.2 rfl, out_eff (σ' := σ) rfl (v' := .tuple #[.bool true, .int .i64 p', .int .i32 (Utf8.decode s' p').1]) ?_ ?_ hm' hf'⟩
            · simp only [Instr.next, hsh, Nat.add_zero, Sem.run_bind, hg, Result.andThen_ok, hp', if_true, run_setObj (P := P) hob (by intro a b c e; cases e)]
              rfl
            · exact .tuple_of (VRL.cons (.refl rfl) (VRL.cons (.refl rfl) (VRL.cons (.refl rfl) (VRL.nil σ))))
          · rename_i hp
            subst hL
            have hp' : ¬ p' < s'.size := fun e => by
              have h1 : Nat.blt p' s'.size = true := Nat.ble_eq_true_of_le e
              rw [h1] at hp; cases hp
            refine ⟨_, List.mem_singleton.2 rfl, out_val rfl (v' := .tuple #[.bool false]) ?_ (.tuple_of (VRL.cons (.refl rfl) (VRL.nil σ)))⟩
            simp only [Instr.next, hsh, Nat.add_zero, Sem.run_bind, hg, Result.andThen_ok, hp', if_false]
            rfl
        | _ => exact hor.elim
      · rename_i hr
        subst hL
        obtain ⟨ob, hob, hor, hlt⟩ := h.iter hr rfl hσ
        cases ob with
        | mapIter r' s1 s2 s3 =>
          cases r' with
          | some _ => exact hor.elim
          | none =>
            have hsh : x.sh = 0 := hor
            have hg := run_getObj (P := P) hob
            refine ⟨_, List.mem_singleton.2 rfl, out_val rfl (v' := .tuple #[.bool false]) ?_ (.tuple_of (VRL.cons (.refl rfl) (VRL.nil σ)))⟩
            simp only [Instr.next, hsh, Nat.add_zero, Sem.run_bind, hg, Result.andThen_ok]
            rfl
        | _ => exact hor.elim
      · rename_i r since seen last hr
        split at hL
        · rename_i es clock hrm
          obtain ⟨ob, hob, hor, hlt⟩ := h.iter hr rfl hσ
          cases ob with
          | mapIter r' since' seen' last' =>
            cases r' with
            | none => exact hor.elim
            | some b =>
              obtain ⟨⟨y, hy, rfl⟩, rfl, hseen, rfl, hsh⟩ := hor
              obtain ⟨es', hobm, her⟩ := h.mapObj hrm hy
              have hg := run_getObj (P := P) hob
              have hgm := run_getObj (P := P) hobm
              have hl := leftOf_sound hseen her
              have ho := oldOf_sound (since := since') hl
              have hn := newOf_sound (since := since') hl
              have hon := ho.append hn
              have htest : (!seen'.isEmpty && !es'.isEmpty && es'.all fun e => decide (e.born ≥ last')) = false := by
                have h1 : seen'.isEmpty = isNil seen := by
                  rw [← hseen]
                  cases seen' with | mk q => cases q <;> rfl
                have h2 : es'.isEmpty = isNil es := by
                  rw [isNil_sound her]
                  cases es' with | mk q => cases q <;> rfl
                have h3 : (es'.all fun e => decide (e.born ≥ last')) = allBorn last' es := by
                  rw [allBorn_sound her]; simp
                rw [h1, h2, h3]
                cases q1 : isNil seen <;> cases q2 : isNil es <;> cases q3 : allBorn last' es <;> first | rfl | (simp only [q1, q2, q3] at hL; exact absurd hL.symm hne)
              have hL2 : L = cond (isNil (oldOf since' (leftOf seen es))) [Out.eff overV m] [] ++ nextEnts m i r since' seen clock (oldOf since' (leftOf seen es) ++ newOf since' (leftOf seen es)) := by
                rw [← hL]
                split
                · rename_i q1 q2 q3; rw [q1, q2, q3] at hL; exact absurd hL.symm hne
                · rfl
              clear hL
              obtain ⟨OA, hOA⟩ : ∃ OA, (es'.filter fun e => !seen'.contains e.born).filter (fun e => decide (e.born < since')) = OA := ⟨_, rfl⟩
              obtain ⟨NA, hNA⟩ : ∃ NA, (es'.filter fun e => !seen'.contains e.born).filter (fun e => decide (e.born ≥ since')) = NA := ⟨_, rfl⟩
              have hOL : OA.toList = (es'.toList.filter fun e => !seen'.contains e.born).filter (fun e => decide (e.born < since')) := by rw [← hOA, Array.toList_filter, Array.toList_filter]
              have hNL : NA.toList = (es'.toList.filter fun e => !seen'.contains e.born).filter (fun e => decide (e.born ≥ since')) := by rw [← hNA, Array.toList_filter, Array.toList_filter]
              rw [← hOL] at ho
              rw [← hOL, ← hNL] at hon
              have hnil : isNil (oldOf since' (leftOf seen es)) = OA.isEmpty := by
                rw [isNil_sound ho]
                cases OA with | mk q => cases q <;> rfl
              obtain ⟨C, hC⟩ : ∃ C, (if OA.isEmpty = true then #[none] else #[]) ++ (OA ++ NA).map some = C := ⟨_, rfl⟩
              have e0 : (Instr.next (.pointer (some ⟨x.b, 0, none⟩)) false ty).run P w = ((choose (Question.mapNext C.size)).run P w).andThen (fun k => (match C[k]? with
                  | some (some e) => do
                    setObj x.b (.mapIter (some y.b) since' (seen'.push e.born) clock)
                    pure (Value.tuple #[.bool true, e.key, e.val])
                  | some none => pure (Value.tuple #[.bool false])
                  | none => stuck "Next: no such candidate" : Sem Value).run P) := by
                simp only [Instr.next, Sem.run_bind, hg, hgm, Result.andThen_ok, htest, Bool.false_eq_true, if_false, hOA, hNA, hC]
                rfl
              have hpos : 0 < C.size := by
                rw [← hC]
                by_cases q : OA.isEmpty = true
                · rw [if_pos q]; simp; omega
                · rw [if_neg q]
                  have : OA.size ≠ 0 := fun z => q (by simp [Array.isEmpty, z])
                  simp; omega
              obtain ⟨j, w1, hj, hw1, hrun⟩ := choose_next (P := P) hpos w
              rw [hrun, Result.andThen_ok] at e0
              have hm1 : MR E w0 σ m w1 ∧ FG σ m w σ m w1 ∧ w1.heap = w.heap := by
                rcases hw1 with rfl | rfl
                · exact ⟨h, FG.refl σ m _, rfl⟩
                · exact ⟨h.drew, FG.drew σ m w, rfl⟩
              obtain ⟨hm1, hf1, hh1⟩ := hm1
              have hit : (Value.pointer (some ⟨x.b, x.sh + 0, none⟩)) = .pointer (some ⟨x.b, 0, none⟩) := by rw [hsh]
              rw [hit, hL2]
              have hcase : (C[j]? = some none ∧ OA.isEmpty = true) ∨ ∃ (k : Nat) (e : MapEntry), C[j]? = some (some e) ∧ (OA ++ NA).toList[k]? = some e := by
                have hCl : C.toList = (if OA.isEmpty = true then [none] else []) ++ (OA ++ NA).toList.map some := by
                  rw [← hC, Array.toList_append, Array.toList_map]
                  by_cases q : OA.isEmpty = true <;> simp [q]
                have hj' : j < C.toList.length := by simpa using hj
                rw [← Array.getElem?_toList]
                rw [hCl] at hj' ⊢
                by_cases q : OA.isEmpty = true
                · rw [if_pos q] at hj' ⊢
                  cases j with
                  | zero => exact .inl ⟨rfl, q⟩
                  | succ j =>
                    have hjl : j < (OA ++ NA).toList.length := by
                      simp only [List.length_append, List.length_map, List.length_cons, List.length_nil] at hj'; omega
                    exact .inr ⟨j, (OA ++ NA).toList[j], by rw [List.singleton_append, List.getElem?_cons_succ, List.getElem?_map, List.getElem?_eq_getElem hjl]; rfl, List.getElem?_eq_getElem hjl⟩
                · rw [if_neg q] at hj' ⊢
                  have hjl : j < (OA ++ NA).toList.length := by
                    simp only [List.length_append, List.length_map, List.length_nil] at hj'; omega
                  exact .inr ⟨j, (OA ++ NA).toList[j], by rw [List.nil_append, List.getElem?_map, List.getElem?_eq_getElem hjl]; rfl, List.getElem?_eq_getElem hjl⟩
              rcases hcase with ⟨hcj, hq⟩ | ⟨k, e', hcj, hk⟩
              · rw [hcj] at e0
                refine ⟨.eff overV m, List.mem_append_left _ (by rw [hnil, hq]; simp), out_eff (σ' := σ) rfl (v' := .tuple #[.bool false]) (w' := w1) ?_ (.tuple_of (VRL.cons (.refl rfl) (VRL.nil σ))) hm1 hf1⟩
                rw [e0]; rfl
              · rw [hcj] at e0
                have hk' : k < (oldOf since' (leftOf seen es) ++ newOf since' (leftOf seen es)).length := by
                  have h1 := (List.getElem?_eq_some_iff.1 hk).1
                  have h2 := hon.1
                  rw [Array.toList_append] at h1
                  omega
                obtain ⟨e, hke⟩ : ∃ e, (oldOf since' (leftOf seen es) ++ newOf since' (leftOf seen es))[k]? = some e := ⟨_, List.getElem?_eq_getElem hk'⟩
                obtain ⟨hb, hkv, hvv⟩ := hon.2 k e e' hke (by rw [← Array.toList_append]; exact hk)
                have hlt1 : x.b < w1.heap.size := by rw [hh1]; exact hlt
                have hob1 : w1.heap[x.b]? = some (.mapIter (some y.b) since' seen' last') := by rw [hh1]; exact hob
                obtain ⟨hm', hf'⟩ := hm1.turnObj (o' := .mit (some r) since' (seen ++ [e.born]) clock) (ob := .mapIter (some y.b) since' (seen'.push e'.born) clock) hr rfl rfl hσ hlt1
                  ⟨⟨y, hy, rfl⟩, rfl, by rw [Array.toList_push, hseen, hb], rfl, hsh⟩
                refine ⟨_, List.mem_append_right _ (nextEnts_mem hke), out_eff (σ' := σ) rfl (v' := .tuple #[.bool true, e'.key, e'.val]) ?_ ?_ hm' (hf1.trans hf')⟩
                · rw [e0]
                  simp only [Sem.run_bind, run_setObj (P := P) hob1 (by intro a b c e; cases e), Result.andThen_ok]
                  rfl
                · exact .tuple_of (VRL.cons (.refl rfl) (VRL.cons hkv (VRL.cons hvv (VRL.nil σ))))
          | _ => exact hor.elim
        · exact absurd hL.symm hne
      · exact absurd hL.symm hne
  · exact absurd hL.symm hne
theorem lastN_sound : ∀ (l : List Nat), lastN l = l.getLast?
  | [] => rfl
  | [x] => rfl
  | _ :: y :: l => by rw [lastN, lastN_sound (y :: l), List.getLast?_cons_cons]
theorem findBorn_sound {b : Nat} : ∀ {es es' : List MapEntry}, ERL σ es es' → ∀ {e : MapEntry}, findBorn b es = some e → ∃ e', es'.find? (fun x => x.born == b) = some e' ∧ VR σ e.key e'.key ∧ VR σ e.val e'.val := by
  intro es
  induction es with
  | nil => intro es' _ e h; cases h
  | cons a es ih =>
    intro es' h e he
    obtain ⟨a', es', rfl⟩ := h.cons_inv
    obtain ⟨h1, h2, h3⟩ := h.head
    simp only [findBorn] at he
    cases hb : Nat.beq a.born b with
    | true =>
      rw [hb] at he
      cases he
      have : a'.born = b := by rw [← h1]; exact Nat.eq_of_beq_eq_true hb
      exact ⟨a', by simp [this], h2, h3⟩
    | false =>
      rw [hb] at he
      have : ¬ a'.born = b := by rw [← h1]; exact Nat.ne_of_beq_eq_false hb
      obtain ⟨e', g1, g2⟩ := ih h.tail he
      exact ⟨e', by simp [this, g1], g2⟩
theorem entry_sound (h : MR E w0 σ m w) {it it' v : Value} (ha : entryA it m = some v) (hx : VR σ it it') : ∃ v', (Instr.entry it').run P w = .ok v' w ∧ VR σ v v' := by
  unfold entryA at ha
  split at ha
  · rename_i i
    cases hx with
    | refl hs => simp [AS.simple] at hs
    | ptr hσ =>
      rename_i x
      split at ha
      · rename_i r since seen stepped hr
        split at ha
        · rename_i stamp es clock hst hrm
          split at ha
          · rename_i e hck hfe
            cases ha
            obtain rfl := Nat.eq_of_beq_eq_true hck
            obtain ⟨ob, hob, hor, hlt⟩ := h.iter hr rfl hσ
            cases ob with
            | mapIter r' since' seen' last' =>
              cases r' with
              | none => exact hor.elim
              | some b =>
                obtain ⟨⟨y, hy, rfl⟩, rfl, hseen, rfl, hsh⟩ := hor
                obtain ⟨es', hobm, her⟩ := h.mapObj hrm hy
                have hg := run_getObj (P := P) hob
                have hgm := run_getObj (P := P) hobm
                obtain ⟨e', g1, g2, g3⟩ := findBorn_sound her hfe
                have hback : seen'.back? = some stamp := by rw [← Array.getLast?_toList, hseen, ← lastN_sound, hst]
                have hfind : es'.find? (fun x => x.born == stamp) = some e' := by rw [← Array.find?_toList]; exact g1
                refine ⟨.tuple #[e'.key, e'.val], ?_, .tuple_of (VRL.cons g2 (VRL.cons g3 (VRL.nil σ)))⟩
                simp only [Instr.entry, hsh, Nat.add_zero, Sem.run_bind, hg, Result.andThen_ok, hback, hgm, bne_self_eq_false, Bool.false_eq_true, if_false, hfind]
                rfl
            | _ => exact hor.elim
          · cases ha
        · cases ha
      · cases ha
  · cases ha
theorem hasM_eq (name : String) (sig : TypeId) : ∀ l : List Method, hasM name sig l = l.any fun m => m.name == name && m.sig == sig
  | [] => rfl
  | m :: l => by
    have hb : Nat.beq m.sig sig = (m.sig == sig) := by cases e : Nat.beq m.sig sig with | true => simp [Nat.eq_of_beq_eq_true e] | false => simp [Nat.ne_of_beq_eq_false e]
    simp only [hasM, hasM_eq name sig l, List.any_cons, hb]
    cases m.name == name <;> cases m.sig == sig <;> rfl
theorem missA_spec (got : Array Method) : ∀ l : List (String × TypeId), missA got.toList l = false ↔ (l.filter fun (name, sig) => !got.any fun m => m.name == name && m.sig == sig) = []
  | [] => by simp [missA]
  | (n, s) :: l => by
    have h1 : hasM n s got.toList = got.any fun m => m.name == n && m.sig == s := by rw [hasM_eq, Array.any_toList]
    simp only [missA, h1, List.filter_cons]
    cases got.any fun m => m.name == n && m.sig == s with
    | true => simpa using missA_spec got l
    | false => simp
theorem missing_none {want : Array (String × TypeId)} {got : Array Method} (h : missA got.toList want.toList = false) : Instr.missingMethod want got = none := by
  rw [missA_spec] at h
  unfold Instr.missingMethod
  simp only [h]
  rfl
theorem least_some (p : String → Bool) (g : String → String) {M : List String} (h : M ≠ []) : ∃ s, (match M.partition p with | (u, e) => Instr.least e <|> Instr.least (u.map g)) = some s := by
  rw [List.partition_eq_filter_filter]
  cases hE : M.filter (not ∘ p) with
  | cons x l => exact ⟨_, rfl⟩
  | nil =>
    cases hU : M.filter p with
    | cons x l => exact ⟨_, rfl⟩
    | nil =>
      exfalso
      cases M with
      | nil => exact h rfl
      | cons y L =>
        rw [List.filter_cons] at hE hU
        cases hc : p y with
        | true => simp [hc] at hU
        | false =>
          have hn : (not ∘ p) y = true := by simp [hc]
          rw [if_pos hn] at hE
          cases hE
theorem missing_some {want : Array (String × TypeId)} {got : Array Method} (h : missA got.toList want.toList = true) : ∃ s, Instr.missingMethod want got = some s := by
  have hne : (want.toList.filter fun (name, sig) => !got.any fun m => m.name == name && m.sig == sig) ≠ [] := fun e => by rw [(missA_spec got _).2 e] at h; cases h
  unfold Instr.missingMethod
  exact least_some _ _ (fun e => hne (List.map_eq_nil_iff.1 e))
theorem assertA_sound (hE : EOK E P) {asserted xt : TypeId} {x x' v : Value} {ok : Bool} (h : assertA E asserted x ok = some v) (hx : VR σ x x') (w : World) :
    ∃ v', (Instr.typeAssert x' xt asserted ok).run P w = .ok v' w ∧ VR σ v v' := by
  unfold assertA at h
  split at h
  · cases h
  · rename_i ta hta
    obtain ⟨hu, _⟩ := hE.types _ _ hta
    split at h
    · rename_i want hd
      rw [hd] at hu
      obtain rfl := hx.simple_inv rfl
      refine noT_sound hE hta h w (fun hok => ?_)
      subst hok
      simp [Instr.typeAssert, run_underlying hu]
    · rename_i want t y hd
      rw [hd] at hu
      obtain ⟨y', rfl, hy⟩ := hx.iface_inv
      split at h
      · cases h
      · rename_i i hi
        rw [hE.prog] at hi
        split at h
        · rename_i hmm0
          have hmm := missing_none hmm0
          refine ⟨_, ?_, yesT_sound h hx⟩
          cases ok <;> simp [Instr.typeAssert, run_underlying hu, typeInfo, hi, hmm]
        · rename_i hmm0
          obtain ⟨s, hmm⟩ := missing_some hmm0
          refine noT_sound hE hta h w (fun hok => ?_)
          subst hok
          simp [Instr.typeAssert, run_underlying hu, typeInfo, hi, hmm]
    · rename_i hd
      obtain rfl := hx.simple_inv rfl
      refine noT_sound hE hta h w (fun hok => ?_)
      subst hok
      generalize ta.desc = d at hu hd
      cases d <;> first | exact absurd rfl (hd _) | simp [Instr.typeAssert, run_underlying hu]
    · rename_i t y hd
      obtain ⟨y', rfl, hy⟩ := hx.iface_inv
      split at h
      · rename_i he
        obtain rfl := Nat.eq_of_beq_eq_true he
        refine ⟨_, ?_, yesT_sound h hy⟩
        generalize ta.desc = d at hu hd
        cases d <;> first | exact absurd rfl (hd _) | (cases ok <;> simp [Instr.typeAssert, run_underlying hu])
      · rename_i he
        have hne := Nat.ne_of_beq_eq_false he
        refine noT_sound hE hta h w (fun hok => ?_)
        subst hok
        generalize ta.desc = d at hu hd
        cases d <;> first | exact absurd rfl (hd _) | simp [Instr.typeAssert, run_underlying hu, hne]
    · cases h
theorem callA_sound (hE : EOK E P) (h : MR E w0 σ m w) {ρ ρ' : Operand → Value} (hρ : ∀ x, VR σ (ρ x) (ρ' x)) (c : Call) (ty : TypeId) (hne : callA E ρ c m ≠ []) :
    ∃ out ∈ callA E ρ c m, OutOK E P w0 σ m w (do let d ← resolve ρ' c ty; invoke d.target d.args) out := by
  generalize hL : callA E ρ c m = L at hne ⊢
  unfold callA at hL
  have hbi : ∀ {b : Builtin} {s : Sem Value}, c.callee = .builtin b → (∀ cs, builtin b c.argTypes ty cs (c.args.map ρ') = (do pure (.value (← s)))) →
      (do let d ← resolve ρ' c ty; invoke d.target d.args : Sem Next).run P w = (do pure (.value (← s)) : Sem Next).run P w := by
    intro b s hc hs
    simp only [resolve, hc, Sem.run_bind, Sem.run_pure, Result.andThen_ok, invoke]
    rw [hs]
    simp
  split at hL
  · rename_i hc
    split at hL
    · rename_i t x ht hx
      subst hL
      have ha := arr1 hx
      refine valO_mem hne (fun v hv => ?_)
      obtain ⟨v', h1, h2⟩ := len_sound (ty := ty) hE h hv (hρ x)
      refine (out_val rfl h1 h2).congr (hbi hc (fun cs => ?_))
      rw [ha, arr1 ht, map1]; rfl
    · exact absurd hL.symm hne
  · rename_i hc
    split at hL
    · rename_i t u s x ht hx
      split at hL
      · rename_i hb
        obtain rfl := Nat.eq_of_beq_eq_true hb
        subst hL
        refine ofO_mem hne (fun o ho => ?_)
        refine (appendB_sound (ty := ty) hE h ho (hρ s) (hρ x)).congr (hbi hc (fun cs => ?_))
        rw [arr2 hx, arr2 ht, map2]; rfl
      · exact absurd hL.symm hne
    · exact absurd hL.symm hne
  · rename_i hc
    split at hL
    · rename_i t u s x ht hx
      subst hL
      refine ofO_mem hne (fun o ho => ?_)
      refine (copy_sound (u := u) (ty := ty) hE h ho (hρ s) (hρ x)).congr (hbi hc (fun cs => ?_))
      rw [arr2 hx, arr2 ht, map2]; rfl
    · exact absurd hL.symm hne
  · rename_i hc
    split at hL
    · rename_i t ts x k ht hx
      split at hL
      · rename_i m' hd
        subst hL
        have hts : c.argTypes[0]? = some t := by
          have : c.argTypes.toList[0]? = some t := by rw [ht]; rfl
          simpa using this
        obtain ⟨w', h1, h2, h3⟩ := delete_sound (ty := ty) hE h hts hd (hρ x) (hρ k)
        refine ⟨_, List.mem_singleton.2 rfl, (out_eff (σ' := σ) rfl h1 (VR.undef σ) h2 h3).congr (hbi hc (fun cs => ?_))⟩
        rw [arr2 hx, map2]; rfl
      · exact absurd hL.symm hne
    · exact absurd hL.symm hne
  · rename_i hc
    split at hL
    · rename_i x y hx
      subst hL
      refine valO_mem hne (fun v hv => ?_)
      obtain ⟨h1, h2⟩ := minmax_sound (P := P) (ts := c.argTypes) (ty := ty) hv (hρ x) (hρ y) w
      refine (out_val rfl h1 (.refl h2)).congr (hbi hc (fun cs => ?_))
      rw [arr2 hx, map2]; rfl
    · exact absurd hL.symm hne
  · rename_i hc
    split at hL
    · rename_i x y hx
      subst hL
      refine valO_mem hne (fun v hv => ?_)
      obtain ⟨h1, h2⟩ := minmax_sound (P := P) (ts := c.argTypes) (ty := ty) hv (hρ x) (hρ y) w
      refine (out_val rfl h1 (.refl h2)).congr (hbi hc (fun cs => ?_))
      rw [arr2 hx, map2]; rfl
    · exact absurd hL.symm hne
  · rename_i f hc
    split at hL
    · rename_i g first cap hf
      split at hL
      · rename_i fn hfn
        subst hL
        refine ⟨_, List.mem_singleton.2 rfl, ?_⟩
        obtain ⟨hP, hname, body, hbody⟩ := hE.funcs g fn hfn
        have hv := hρ f
        rw [hf] at hv
        obtain ⟨first', cap', hv', hfst, hcap⟩ := hv.func_inv
        refine ⟨first' ++ c.args.map ρ' ++ cap', ?_, ?_⟩
        · have hb : ¬ fn.body = none := by rw [hbody]; simp
          have hnm : ¬ fn.name = "runtime.NumGoroutine" := by simpa using hname
          simp [resolve, hc, hv', Deferred.ofValue, invoke, callFunc, hP, hnm, hb]
        · simp only [Array.toList_append, Array.toList_map]
          exact (hfst.append (VRL.map hρ _)).append hcap
      · rename_i hfn
        split at hL
        · rename_i x hx
          subst hL
          refine ofO_mem hne (fun out ho => ?_)
          obtain ⟨fn, hP, hname, hbody, hnx, hfind⟩ := hE.exts g x hx
          have hv := hρ f
          rw [hf] at hv
          obtain ⟨first', cap', hv', hfst, hcap⟩ := hv.func_inv
          refine (extA_sound (P := P) (args' := first' ++ c.args.map ρ' ++ cap') h ho ?_).congr ?_
          · simp only [Array.toList_append, Array.toList_map]
            exact (hfst.append (VRL.map hρ _)).append hcap
          · have hnm : ¬ fn.name = "runtime.NumGoroutine" := by simpa using hname
            simp [resolve, hc, hv', Deferred.ofValue, invoke, callFunc, hP, hnm, hbody, hnx, hfind]
        · exact absurd hL.symm hne
    · rename_i name first cap hf
      split at hL
      · rename_i t v r hfr
        split at hL
        · rename_i g u hg
          split at hL
          · rename_i fn hfn
            subst hL
            refine ⟨_, List.mem_singleton.2 rfl, ?_⟩
            obtain ⟨hP, hname, body, hbody⟩ := hE.funcs g fn hfn
            have hv := hρ f
            rw [hf] at hv
            obtain ⟨first', cap', hv', hfst, hcap⟩ := hv.func_inv
            rw [hfr] at hfst
            obtain ⟨fl⟩ := first'
            match fl, hfst with
            | [], hfst => exact absurd hfst.1 (by simp)
            | x' :: r', hfst =>
            obtain ⟨v', rfl, hvv⟩ := hfst.head.iface_inv
            obtain ⟨u', hm, huu⟩ := methodA_sound (w := w) hE hg hvv (P.types.size + 99)
            refine ⟨#[u'] ++ (r'.toArray ++ c.args.map ρ'), ?_, ?_⟩
            · have hb : ¬ fn.body = none := by rw [hbody]; simp
              have hnm : ¬ fn.name = "runtime.NumGoroutine" := by simpa using hname
              have hz : ((Value.iface t v' :: r').toArray ++ c.args.map ρ')[0]? = some (.iface t v') := by rw [Array.getElem?_append_left (by simp only [List.size_toArray, List.length_cons]; omega)]; rfl
              have hex : ((Value.iface t v' :: r').toArray ++ c.args.map ρ').extract 1 ((Value.iface t v' :: r').toArray ++ c.args.map ρ').size = r'.toArray ++ c.args.map ρ' := by
                apply Array.ext'
                rw [Array.toList_extract]
                simp only [Array.toList_append, Array.toList_map, List.cons_append, List.extract, List.drop_succ_cons, List.drop_zero, Array.size_append, List.size_toArray, List.length_cons, Array.size_map]
                exact List.take_of_length_le (by simp only [List.length_append, List.length_map, Array.length_toList]; omega)
              have e1 : P.types.size + Made.depth = P.types.size + 99 + 1 := rfl
              have hr' : resolve ρ' c ty = pure { target := .fn (.method name) cap', args := (Value.iface t v' :: r').toArray ++ c.args.map ρ' } := by
                simp only [resolve, hc]; rw [hv']; rfl
              have hi : invoke (.fn (.method name) cap') ((Value.iface t v' :: r').toArray ++ c.args.map ρ') = callMethod (.iface t v') name (r'.toArray ++ c.args.map ρ') := by
                unfold invoke
                simp only [hz]
                rw [hex]
              rw [hr']
              simp only [Sem.run_bind, Sem.run_pure, Result.andThen_ok]
              rw [hi]
              simp [callMethod, e1, hm, callFunc, hP, hnm, hb]
            · simp only [Array.toList_append, Array.toList_map]
              exact (VRL.cons huu (VRL.nil σ)).append (hfst.tail.append (VRL.map hρ _))
          · exact absurd hL.symm hne
        · exact absurd hL.symm hne
      · exact absurd hL.symm hne
    · rename_i i hf
      subst hL
      refine ⟨_, List.mem_singleton.2 rfl, ?_⟩
      have hv := hρ f
      rw [hf] at hv
      obtain ⟨x, hx, hv'⟩ := hv.yld_inv
      refine ⟨c.args.map ρ', x, hx, ?_, by rw [Array.toList_map]; exact VRL.map hρ _⟩
      simp [resolve, hc, hv', Deferred.ofValue, invoke]
    · exact absurd hL.symm hne
  · rename_i r name hc
    split at hL
    · rename_i t v hr
      split at hL
      · rename_i g u hg
        split at hL
        · rename_i fn hfn
          subst hL
          refine ⟨_, List.mem_singleton.2 rfl, ?_⟩
          obtain ⟨hP, hname, body, hbody⟩ := hE.funcs g fn hfn
          have hv := hρ r
          rw [hr] at hv
          obtain ⟨v', hv', hvv⟩ := hv.iface_inv
          obtain ⟨u', hm, huu⟩ := methodA_sound (w := w) hE hg hvv (P.types.size + 99)
          refine ⟨#[u'] ++ c.args.map ρ', ?_, ?_⟩
          · have hb : ¬ fn.body = none := by rw [hbody]; simp
            have hnm : ¬ fn.name = "runtime.NumGoroutine" := by simpa using hname
            have hex : (#[Value.iface t v'] ++ c.args.map ρ').extract 1 (#[Value.iface t v'] ++ c.args.map ρ').size = c.args.map ρ' := by
              apply Array.ext'
              simp [List.extract]
              exact List.take_of_length_le (by simp)
            have hz : (#[Value.iface t v'] ++ c.args.map ρ')[0]? = some (.iface t v') := by rw [Array.getElem?_append_left (by simp)]; rfl
            have e1 : P.types.size + Made.depth = P.types.size + 99 + 1 := rfl
            have hr' : resolve ρ' c ty = pure { target := .fn (.method name) #[], args := #[ρ' r] ++ c.args.map ρ' } := by simp only [resolve, hc]
            have hi : invoke (.fn (.method name) #[]) (#[Value.iface t v'] ++ c.args.map ρ') = callMethod (.iface t v') name (c.args.map ρ') := by
              unfold invoke
              simp only [hz]
              rw [hex]
            rw [hr', hv']
            simp only [Sem.run_bind, Sem.run_pure, Result.andThen_ok]
            rw [hi]
            simp [callMethod, e1, hm, callFunc, hP, hnm, hb]
          · simp only [Array.toList_append, Array.toList_map]
            exact (VRL.cons huu (VRL.nil σ)).append (VRL.map hρ _)
        · exact absurd hL.symm hne
      · exact absurd hL.symm hne
    · exact absurd hL.symm hne
  · exact absurd hL.symm hne
theorem evOp0_sound (hE : EOK E P) (h : MR E w0 σ m w) {ρ ρ' : Operand → Value} (hρ : ∀ x, VR σ (ρ x) (ρ' x)) (o : Oper) (hne : evOp0 E ρ o m ≠ []) : ∃ out ∈ evOp0 E ρ o m, OutOK E P w0 σ m w (execOp ρ' o) out := by
  generalize hL : evOp0 E ρ o m = L at hne ⊢
  unfold evOp0 at hL
  have one : ∀ {out : Out}, L = [out] → OutOK E P w0 σ m w (execOp ρ' o) out → ∃ out ∈ L, OutOK E P w0 σ m w (execOp ρ' o) out := fun h1 h2 => ⟨_, by rw [h1]; simp, h2⟩
  split at hL
  · rename_i x ho
    exact one hL.symm ⟨.value (ρ' x), ρ' x, by simp [execOp, ho], rfl, hρ x⟩
  · rename_i x ho
    exact one hL.symm ⟨.value (ρ' x), ρ' x, by simp [execOp, ho], rfl, hρ x⟩
  · rename_i c a b ho
    split at hL
    · rename_i t hc
      have hv := hρ c
      rw [hc] at hv
      have hc' := hv.simple_inv rfl
      refine one hL.symm ⟨.value (if t then ρ' a else ρ' b), _, by simp [execOp, ho, hc', asBool], rfl, ?_⟩
      cases t
      · exact hρ b
      · exact hρ a
    · rename_i hc
      have hv := hρ c
      rw [hc] at hv
      generalize hvc : ρ' c = vc at hv
      cases hv with
      | refl hs => simp [AS.simple] at hs
      | topB t =>
        cases t with
        | true => exact ⟨.val (ρ a), by rw [← hL]; simp, .value (ρ' a), _, by simp [execOp, ho, hvc, asBool], rfl, hρ a⟩
        | false => exact ⟨.val (ρ b), by rw [← hL]; simp, .value (ρ' b), _, by simp [execOp, ho, hvc, asBool], rfl, hρ b⟩
    · exact absurd hL.symm hne
  · rename_i t ho
    split at hL
    · rename_i ti hti
      obtain ⟨hu, i, z, hi, hsz, hby, hz, hzc, hzl, hzs, _⟩ := hE.types t ti hti
      have hor := OR.newRow (w := w) (e := t) hti (VRL.simple (σ := σ) hzs)
      have hza : ti.zero.toArray = z.cells := by rw [← hzc]
      rw [hza] at hor
      exact one hL.symm ⟨_, _, _, by simp [execOp, ho, Instr.alloc, zeroValue_run hi hz, newVar, Go.newRow], rfl, rfl, hor, fun σ' id hx => .ptr hx⟩
    · exact absurd hL.symm hne
  · rename_i t x ho
    split at hL
    · rename_i ti hti hb
      have hnb : ρ x ≠ bad := by intro e; rw [e] at hb; simp [isBad, bad] at hb
      have hor := OR.newRow (w := w) (e := t) hti ((hρ x).cells hnb)
      have hza : (ρ' x).cells.toList.toArray = (ρ' x).cells := by simp
      rw [hza] at hor
      exact one hL.symm ⟨_, _, _, by simp [execOp, ho, Instr.box, newVar, Go.newRow], rfl, rfl, hor, fun σ' id hx => .ptr hx⟩
    · exact absurd hL.symm hne
  · rename_i t parts ho
    subst hL
    refine valO_mem hne (fun v hv => ?_)
    obtain ⟨v', h1, h2⟩ := build_sound hE hv (VRP.map hρ parts) w
    exact (out_val rfl h1 h2).congr (by simp [execOp, ho])
  · rename_i t len parts ho
    subst hL
    refine ofO_mem hne (fun v hv => ?_)
    exact (buildSlice_sound hE hv (VRP.map hρ parts)).congr (by simp [execOp, ho])
  · rename_i t a ho
    split at hL
    · rename_i ad ha
      subst hL
      refine valO_mem hne (fun v hv => ?_)
      obtain ⟨v', h1, h2⟩ := loadAt_sound hE h hv (ha ▸ hρ a)
      exact (out_val rfl h1 h2).congr (by simp [execOp, ho])
    · exact absurd hL.symm hne
  · rename_i t a x ho
    split at hL
    · rename_i m' hs
      obtain ⟨w', h1, h2, h3⟩ := store_sound hE h hs (hρ a) (hρ x)
      exact one hL.symm ⟨.skip, und, w', σ, by simp [execOp, ho, h1], rfl, VR.undef σ, h2, h3⟩
    · exact absurd hL.symm hne
  · rename_i x ho
    have hv := hρ x
    split at hL
    · rename_i a hx
      rw [hx] at hv
      generalize hvc : ρ' x = vc at hv
      refine one hL.symm ⟨.value vc, vc, ?_, rfl, hv⟩
      cases hv with
      | refl hs => simp [AS.simple] at hs
      | ptr hy => simp [execOp, ho, hvc]
    · rename_i g a b hx
      rw [hx] at hv
      obtain ⟨a', b', hvc, _, _⟩ := hv.func_inv
      refine one hL.symm ⟨.value (ρ' x), ρ' x, ?_, rfl, hv⟩
      simp [execOp, ho, hvc]
    · rename_i name a b hx
      rw [hx] at hv
      split at hL
      · rename_i t v r hfr
        split at hL
        · rename_i q hg
          obtain ⟨first', cap', hvc, hfst, _⟩ := hv.func_inv
          rw [hfr] at hfst
          obtain ⟨fl⟩ := first'
          match fl, hfst with
          | [], hfst => exact absurd hfst.1 (by simp)
          | x' :: r', hfst =>
          obtain ⟨v', rfl, hvv⟩ := hfst.head.iface_inv
          have ha := methodA_ahead (w := w) hE hg hvv (P.types.size + 99)
          have e1 : P.types.size + Made.depth = P.types.size + 99 + 1 := rfl
          refine one hL.symm ⟨.value (ρ' x), ρ' x, ?_, rfl, hv⟩
          simp [execOp, ho, hvc, e1, ha]
        · exact absurd hL.symm hne
      · exact absurd hL.symm hne
    · rename_i t v hx
      rw [hx] at hv
      obtain ⟨v', hvc, _⟩ := hv.iface_inv
      refine one hL.symm ⟨.value (ρ' x), ρ' x, ?_, rfl, hv⟩
      simp [execOp, ho, hvc]
    · rename_i i hx
      rw [hx] at hv
      obtain ⟨y, _, hvc⟩ := hv.yld_inv
      refine one hL.symm ⟨.value (ρ' x), ρ' x, ?_, rfl, hv⟩
      simp [execOp, ho, hvc]
    · exact absurd hL.symm hne
  · rename_i op t x y yt ho
    subst hL
    refine valO_mem hne (fun v hv => ?_)
    obtain ⟨v', h1, h2⟩ := binopC_sound (P := P) (ox := x) (oy := y) hE hv (hρ x) (hρ y) w
    exact (out_val rfl h1 h2).congr (by simp [execOp, ho])
  · rename_i op t x ho
    have hv := hρ x
    split at hL
    · rename_i b hx
      rw [hx] at hv
      have hc' := hv.simple_inv rfl
      exact one hL.symm (out_val (s0 := Op.unary .not (ρ' x)) (by simp [execOp, ho]) (by rw [hc']; rfl) (.refl rfl))
    · rename_i hx
      rw [hx] at hv
      generalize hvc : ρ' x = vc at hv
      cases hv with
      | refl hs => simp [AS.simple] at hs
      | topB b => exact one hL.symm (out_val (s0 := Op.unary .not (ρ' x)) (by simp [execOp, ho]) (by rw [hvc]; rfl) (.topB _))
    · rename_i k n hx
      rw [hx] at hv
      have hc' := hv.simple_inv rfl
      exact one hL.symm (out_val (s0 := Op.unary .neg (ρ' x)) (by simp [execOp, ho]) (by rw [hc']; rfl) (.refl rfl))
    · rename_i k n hx
      rw [hx] at hv
      have hc' := hv.simple_inv rfl
      subst hL
      refine valO_mem hne (fun v hv => ?_)
      simp only [intBin, Option.some.injEq] at hv
      subst hv
      exact out_val (s0 := Op.unary .xor (ρ' x)) (by simp [execOp, ho]) (by rw [hc']; rfl) (.refl rfl)
    · exact absurd hL.symm hne
  · rename_i src dst x ho
    subst hL
    refine ofO_mem hne (fun v hv => ?_)
    exact (convert_sound hE h hv (hρ x)).congr (by simp [execOp, ho])
  · rename_i t x ho
    split at hL
    · rename_i ti hti
      obtain ⟨hu, _⟩ := hE.types t ti hti
      split at hL
      · rename_i hif
        refine one hL.symm (out_val (s0 := Instr.makeInterface t (ρ' x)) (by simp [execOp, ho]) (v' := .iface t (ρ' x)) ?_ (.iface (hρ x)))
        simp only [Instr.makeInterface, Sem.run_bind, run_underlying hu, Result.andThen_ok]
        cases hd : ti.desc <;> first | (rw [hd] at hif; cases hif; done) | rfl
      · exact absurd hL.symm hne
    · exact absurd hL.symm hne
  · rename_i fn first captured ho
    refine one hL.symm (out_val (s0 := Instr.makeFunc fn (first.map ρ') (captured.map ρ')) (by simp [execOp, ho]) rfl ?_)
    have h1 := VRL.map hρ first.toList
    have h2 := VRL.map hρ captured.toList
    rw [← Array.toList_map, ← Array.toList_map] at h1 h2
    exact .func h1.arr_size h1.arr_get h2.arr_size h2.arr_get
  · rename_i t ho
    exact one hL.symm ⟨_, .map #[] 0, ⟨w.heap.size, 0, 0, 0⟩, by simp [execOp, ho, Instr.makeMap], rfl, rfl, ⟨rfl, rfl, fun i a b ha => by simp at ha⟩, fun σ' id hx => .map hx⟩
  · rename_i t l c ho
    subst hL
    refine ofO_mem hne (fun v hv => ?_)
    exact (makeSlice_sound hE hv (hρ l) (hρ c)).congr (by simp [execOp, ho])
  · rename_i t x lo hi mx ho
    subst hL
    obtain ⟨out, h1, h2⟩ := sliceA_sound hE h hne (hρ x) (VRO.map hρ lo) (VRO.map hρ hi) (VRO.map hρ mx)
    exact ⟨out, h1, h2.congr (by simp [execOp, ho])⟩
  · rename_i t x f ho
    subst hL
    refine valO_mem hne (fun v hv => ?_)
    obtain ⟨v', h1, h2⟩ := fieldAddr_sound (P := P) hE hv (hρ x) w
    exact (out_val rfl h1 h2).congr (by simp [execOp, ho])
  · rename_i t x f ho
    subst hL
    refine valO_mem hne (fun v hv => ?_)
    obtain ⟨v', h1, h2⟩ := field_sound (P := P) hE hv (hρ x) w
    exact (out_val rfl h1 h2).congr (by simp [execOp, ho])
  · rename_i t x i ho
    subst hL
    refine valO_mem hne (fun v hv => ?_)
    obtain ⟨v', h1, h2⟩ := indexAddr_sound (P := P) hE hv (hρ x) (hρ i) w
    exact (out_val rfl h1 h2).congr (by simp [execOp, ho])
  · rename_i t x i ho
    subst hL
    refine valO_mem hne (fun v hv => ?_)
    obtain ⟨v', h1, h2⟩ := index_sound (P := P) hE hv (hρ x) (hρ i) w
    exact (out_val rfl h1 h2).congr (by simp [execOp, ho])
  · rename_i t x k ok ho
    subst hL
    refine valO_mem hne (fun v hv => ?_)
    obtain ⟨v', h1, h2⟩ := lookup_sound hE h hv (hρ x) (hρ k)
    exact (out_val rfl h1 h2).congr (by simp [execOp, ho])
  · rename_i t x k v ho
    split at hL
    · rename_i m' hs
      obtain ⟨w', h1, h2, h3⟩ := mapUpdate_sound hE h hs (hρ x) (hρ k) (hρ v)
      exact one hL.symm ⟨.skip, und, w', σ, by simp [execOp, ho, h1], rfl, VR.undef σ, h2, h3⟩
    · exact absurd hL.symm hne
  · rename_i t x k v ho
    split at hL
    · rename_i m' hs
      obtain ⟨w', h1, h2, h3⟩ := mapUpdate_sound hE h hs (hρ x) (hρ k) (hρ v)
      exact one hL.symm ⟨.skip, und, w', σ, by simp [execOp, ho, h1], rfl, VR.undef σ, h2, h3⟩
    · exact absurd hL.symm hne
  · rename_i t i ho
    split at hL
    · rename_i vs ht
      split at hL
      · rename_i v hv
        have hr := hρ t
        rw [ht] at hr
        obtain ⟨vs', hvs, hl⟩ := hr.tuple_inv
        obtain ⟨v', h1, h2⟩ := hl.getElem? hv
        have h1' : vs'[i]? = some v' := by simpa using h1
        exact one hL.symm (out_val (s0 := Instr.extract (ρ' t) i) (by simp [execOp, ho]) (by simp [hvs, Instr.extract, h1']) h2)
      · exact absurd hL.symm hne
    · exact absurd hL.symm hne
  · rename_i t x ho
    subst hL
    refine ofO_mem hne (fun v hv => ?_)
    exact (range_sound hE h hv (hρ x)).congr (by simp [execOp, ho])
  · rename_i it isString ho
    subst hL
    obtain ⟨out, h1, h2⟩ := next_sound (ty := o.type) h hne (hρ it)
    exact ⟨out, h1, h2.congr (by simp [execOp, ho])⟩
  · rename_i it ho
    subst hL
    refine valO_mem hne (fun v hv => ?_)
    obtain ⟨v', h1, h2⟩ := entry_sound (P := P) h hv (hρ it)
    exact (out_val rfl h1 h2).congr (by simp [execOp, ho])
  · rename_i x xt asserted ok ho
    subst hL
    refine valO_mem hne (fun v hv => ?_)
    obtain ⟨v', h1, h2⟩ := assertA_sound (P := P) (xt := xt) hE hv (hρ x) w
    exact (out_val rfl h1 h2).congr (by simp [execOp, ho])
  · rename_i c ho
    subst hL
    obtain ⟨out, h1, h2⟩ := callA_sound hE h hρ c o.type hne
    exact ⟨out, h1, h2.congr (by simp [execOp, ho])⟩
  · exact absurd hL.symm hne
theorem veq_sound : ∀ n, (∀ a b, veq n a b = true → a = b) ∧ (∀ l r, veqL n l r = true → l = r) := by
  intro n
  induction n with
  | zero => exact ⟨fun a b h => by simp [veq] at h, fun l r h => by simp [veqL] at h⟩
  | succ n ih =>
    obtain ⟨ih1, ih2⟩ := ih
    have arr : ∀ {x y : Array Value}, veqL n x.toList y.toList = true → x = y := fun h => Array.ext' (ih2 _ _ h)
    constructor
    · intro a b h
      unfold veq at h
      split at h <;> first
        | (simp only [Bool.and_eq_true] at h
           simp_all [Nat.beq_eq]
           done)
        | (cases h; done)
        | skip
      · rename_i p q; have : p = q := by simpa using h
        rw [this]
      · simp only [Bool.and_eq_true, beq_iff_eq] at h
        rw [kcode_inj h.1, h.2]
      · rename_i p q
        have h1 : p.data.toList = q.data.toList := by simpa using h
        have : p = q := ByteArray.ext (Array.ext' h1)
        rw [this]
      · rw [Nat.eq_of_beq_eq_true h]
      · simp only [Bool.and_eq_true] at h
        rw [Nat.eq_of_beq_eq_true h.1.1, arr h.1.2, arr h.2]
      · simp only [Bool.and_eq_true] at h
        rw [Nat.eq_of_beq_eq_true h.1, ih1 _ _ h.2]
      · rw [arr h]
      · rw [arr h]
    · intro l r h
      unfold veqL at h
      split at h
      · rfl
      · simp only [Bool.and_eq_true] at h
        rw [ih1 _ _ h.1, ih2 _ _ h.2]
      · cases h
theorem findRule_spec {k : Nat × Nat × Nat} {args : List Value} {v : Value} : ∀ {l : List Rule}, findRule k args l = some v → ∃ r ∈ l, r.key = k ∧ r.args = args ∧ r.res = v := by
  intro l
  induction l with
  | nil => intro h; cases h
  | cons r l ih =>
    intro h
    have rest : findRule k args l = some v → ∃ r' ∈ r :: l, r'.key = k ∧ r'.args = args ∧ r'.res = v := fun h => let ⟨r', a, b⟩ := ih h; ⟨r', List.mem_cons_of_mem _ a, b⟩
    unfold findRule at h
    split at h
    · rename_i hk
      split at h
      · rename_i ha
        cases h
        refine ⟨r, List.mem_cons_self .., ?_, ((veq_sound 30).2 _ _ ha).symm, rfl⟩
        obtain ⟨x, y, z⟩ := k
        obtain ⟨⟨u, v, w⟩, _, _⟩ := r
        simp only [rkeyEq, Bool.and_eq_true, Nat.beq_eq] at hk
        simp only [hk.1.1, hk.1.2, hk.2]
      · exact rest h
    · exact rest h
theorem evOp_sound (hE : EOK E P) (h : MR E w0 σ m w) {ρ ρ' : Operand → Value} (hρ : ∀ x, VR σ (ρ x) (ρ' x)) (o : Oper) (hne : evOp E ρ o m ≠ []) : ∃ out ∈ evOp E ρ o m, OutOK E P w0 σ m w (execOp ρ' o) out := by
  unfold evOp at hne ⊢
  split
  · rename_i hk
    rw [hk] at hne
    exact evOp0_sound hE h hρ o hne
  · rename_i k hk
    rw [hk] at hne
    simp only at hne
    split
    · rename_i v hv
      obtain ⟨r, hr, hkey, hargs, hres⟩ := findRule_spec hv
      obtain ⟨v', hrun, hvr⟩ := hE.rules r hr o (by rw [hkey]; exact hk) σ ρ' (by rw [hargs]; exact VRL.map hρ _) w0 w h.t0 h.below
      rw [hres] at hvr
      exact ⟨_, List.mem_cons_self .., .value v', v', hrun, rfl, hvr⟩
    · rename_i hv
      rw [hv] at hne
      exact evOp0_sound hE h hρ o hne
end Go.AS
set_option linter.unusedSectionVars false
namespace Go.AS
open Go.RowKit
variable [Rho]
variable {E : Env} {P : Program} {w0 : World}
structure TR (σ : Sg) (N : Nat) (t : T Value) (a : Act) : Prop where
  size : a.tmps.size = N
  val : ∀ i, VR σ (tv t i) (a.tmps.getD i undef)
theorem TR.mono {σ σ' : Sg} (he : Ext σ σ') {N : Nat} {t : T Value} {a : Act} (h : TR σ N t a) : TR σ' N t a := ⟨h.size, fun i => (h.val i).mono he⟩
theorem allSimple_spec {l : List Value} (h : allSimple l = true) : ∀ v ∈ l, simple v = true := by
  induction l with
  | nil => intro v hv; cases hv
  | cons x l ih =>
    intro v hv
    simp only [allSimple] at h
    cases hx : simple x with
    | false => rw [hx] at h; cases h
    | true =>
      rw [hx] at h
      cases hv with
      | head => exact hx
      | tail _ hm => exact ih h v hm
theorem cst_sound (σ : Sg) (v : Value) : VR σ (cst v) v := by
  unfold cst
  split <;> first | exact .refl rfl | exact .any _ | skip
  · rename_i vs
    split
    · rename_i h
      have : vs = #[] := Array.ext' h
      subst this; exact VR.undef σ
    · exact .any _
  · rename_i vs
    split
    · rename_i h
      exact .agg_of (VRL.simple (allSimple_spec h))
    · exact .any _
theorem evalT_sound {σ : Sg} {N : Nat} {t : T Value} {a : Act} (h : TR σ N t a) (x : Operand) : VR σ (evalT t x) (a.eval x) := by
  cases x with
  | tmp i => exact h.val i
  | const v => exact cst_sound σ v
  | global g => exact .any _
  | func f => exact .func rfl (fun i hi => by simp at hi) rfl (fun i hi => by simp at hi)
theorem TR.put {σ : Sg} {N : Nat} {t : T Value} {a : Act} (h : TR σ N t a) (d : Option Tmp) {v v' : Value} (hv : VR σ v v') : TR σ N (put N t d v) (a.put d v') := by
  cases d with
  | none => exact h
  | some d =>
    simp only [AS.put, Act.put]
    refine ⟨by simpa using h.size, fun i => ?_⟩
    cases hlt : Nat.blt d N with
    | true =>
      have hlt' : d < N := Nat.le_of_ble_eq_true hlt
      simp only [tv, T.get_set]
      by_cases e : d = i
      · subst e
        have : d < a.tmps.size := by rw [h.size]; exact hlt'
        simp [this, hv]
      · rw [if_neg e]
        have : (a.tmps.setIfInBounds d v').getD i undef = a.tmps.getD i undef := by
          simp [e]
        rw [this]; exact h.val i
    | false =>
      have hge : N ≤ d := by
        rcases Nat.lt_or_ge d N with h1 | h1
        · have h2 : Nat.blt d N = true := Nat.ble_eq_true_of_le h1
          rw [h2] at hlt; cases hlt
        · exact h1
      have : a.tmps.setIfInBounds d v' = a.tmps := by
        apply Array.ext_getElem?
        intro q
        rw [Array.getElem?_setIfInBounds]
        by_cases e : d = q
        · subst e; rw [if_pos rfl, if_neg (by rw [h.size]; omega), Array.getElem?_eq_none (by rw [h.size]; exact hge)]
        · rw [if_neg e]
      rw [this]; exact h.val i
theorem wanted_sound {σ : Sg} {N : Nat} {t : T Value} {a : Act} (h : TR σ N t a) {ops : Array Oper} {o : Oper} {b : Bool} (hw : wanted ops o t = some b) : Region.wanted o (yielded ops a.tmps) = b := by
  unfold wanted at hw
  unfold Region.wanted
  split at hw
  · rename_i hg
    rw [hg]; cases hw; rfl
  · rename_i j want hg
    rw [hg]
    split at hw
    · rename_i p hp
      have hp' : ops[j]? = some p := by simpa using hp
      split at hw
      · rename_i d hd
        have hv := h.val d
        have hy : yielded ops a.tmps j = match a.tmps[d]? with | some (.bool b) => some b | _ => none := by
          simp [yielded, hp', hd]
          rfl
        simp only [tv] at hv
        split at hw
        · rename_i b' ht
          cases hw
          rw [ht] at hv
          have hb := hv.simple_inv rfl
          have : a.tmps[d]? = some (.bool b') := by
            rcases Nat.lt_or_ge d a.tmps.size with h1 | h1
            · simp [h1] at hb
              rw [Array.getElem?_eq_getElem h1, hb]
            · simp [Nat.not_lt.2 h1, undef] at hb
          simp only [hy, this]
          cases b' <;> cases want <;> rfl
        · rename_i vs ht
          cases hw
          rw [ht] at hv
          obtain ⟨vs', hb, _⟩ := hv.tuple_inv
          have : (match a.tmps[d]? with | some (.bool b) => some b | _ => none) = (none : Option Bool) := by
            rcases Nat.lt_or_ge d a.tmps.size with h1 | h1
            · simp [h1] at hb
              rw [Array.getElem?_eq_getElem h1, hb]
            · rw [Array.getElem?_eq_none h1]
          simp only [hy, this]
          rfl
        · cases hw
      · cases hw
    · cases hw
theorem bindL_ne {α β : Type} {f : α → List β} : ∀ {l : List α}, bindL l f ≠ [] → ∀ x ∈ l, f x ≠ [] ∧ ∀ y ∈ f x, y ∈ bindL l f := by
  intro l
  induction l with
  | nil => intro _ x hx; cases hx
  | cons a l ih =>
    intro hne x hx
    cases l with
    | nil =>
      simp only [List.mem_singleton] at hx
      subst hx
      exact ⟨hne, fun y hy => hy⟩
    | cons b l =>
      simp only [bindL] at hne ⊢
      split at hne
      · exact absurd rfl hne
      · rename_i c cs hc
        split at hne
        · exact absurd rfl hne
        · rename_i d ds hd
          try rw [hc]
          try simp only
          try rw [hd]
          try simp only
          cases hx with
          | head =>
            rw [hc]
            exact ⟨by simp, fun y hy => List.mem_append.2 (.inl (by simpa using hy))⟩
          | tail _ hm =>
            have hne2 : bindL (b :: l) f ≠ [] := by rw [hd]; simp
            obtain ⟨h1, h2⟩ := ih hne2 x hm
            refine ⟨h1, fun y hy => ?_⟩
            have := h2 y hy
            rw [hd] at this
            exact List.mem_append.2 (.inr this)
def WF (r : Option Nat) : Fence := { Fence.wide with round := r }
theorem WF_none : WF none = Fence.wide := rfl
theorem WF_round (r : Option Nat) (l : Nat) : (WF r).inRound l = WF (some l) := rfl
theorem WF_depth {n : Nat} (r : Option Nat) : (WF r).depth.isSome = true → 1 ≤ n := fun h => by simp [WF, Fence.wide] at h
theorem callsIn_W {r : Option Nat} {n : Nat} {f : FuncId} {args : Array Value} {w : World} {R : Ending → World → Prop} (h : Calls P f args w R) : CallsIn (WF r) n P f args w R :=
  (callsIn_wide (n := n)).2 h
theorem calls_of_W {r : Option Nat} {n : Nat} {f : FuncId} {args : Array Value} {w : World} {R : Ending → World → Prop} (h : CallsIn (WF r) n P f args w R) : Calls P f args w R :=
  (callsIn_wide (n := n)).1 h
def After (E : Env) (w0 : World) (σ : Sg) (m : Mem) (w : World) (l : List (Value × Mem)) (e : Ending) (w' : World) : Prop :=
  ∃ r ∈ l, ∃ σ' v', e = .returned v' ∧ FG σ m w σ' r.2 w' ∧ VR σ' r.1 v' ∧ MR E w0 σ' r.2 w'
structure CallOK (E : Env) (P : Program) (w0 : World) (call : CallF) : Prop where
  fn : ∀ f args m, call (.fn f) args m ≠ [] → ∀ (σ : Sg) (w : World) (args' : Array Value), VRL σ args args'.toList → MR E w0 σ m w → Calls P f args' w (After E w0 σ m w (call (.fn f) args m))
  yld : ∀ i args m, call (.yld i) args m ≠ [] → ∀ (σ : Sg) (w : World) (args' : Array Value) (x : Inf), σ i = some x → VRL σ args args'.toList → MR E w0 σ m w →
    ∃ f tmps as body, (Instr.yield x.b args').run P w = .ok (.round x.b f tmps as body) w ∧ ∀ r n, RoundIn (WF r) n P x.b f tmps as body w (After E w0 σ m w (call (.yld i) args m))
theorem not_defer {ρ : Operand → Value} {o : Oper} {m : Mem} (h : evOp E ρ o m ≠ []) : ∀ c, o.op ≠ .defer c := by
  intro c hc
  refine h ?_
  unfold evOp opKey
  rw [hc]
  simp only
  unfold evOp0
  rw [hc]
theorem oper_wp {call : CallF} (hcall : CallOK E P w0 call) {σ : Sg} {m : Mem} {w : World} {o : Oper} {a : Act} {out : Out} (hnd : ∀ c, o.op ≠ .defer c) (hM : MR E w0 σ m w) (hout : OutOK E P w0 σ m w (execOp a.eval o) out)
    {r : Option Nat} {n : Nat} {K : Act → World → Prop} {Q : Exit → Act → World → Prop}
    (hv : ∀ v, out = .val v → ∀ v', VR σ v v' → K (a.put o.dst v') w)
    (hn : ∀ ob mk, out = .new ob mk → ∀ v' obj x, x.b = w.heap.size → ob.live = true → OR E σ x ob obj → (∀ (σ' : Sg) id, σ' id = some x → VR σ' (mk.val id) v') → K (a.put o.dst v') (w.alloc obj))
    (he : ∀ v m', out = .eff v m' → ∀ v' w' σ', VR σ' v v' → MR E w0 σ' m' w' → FG σ m w σ' m' w' → K (a.put o.dst v') w')
    (hc : ∀ f args, out = .enter f args → call f args m ≠ [] ∧ ∀ q ∈ call f args m, ∀ v' w' σ', FG σ m w σ' q.2 w' → VR σ' q.1 v' → MR E w0 σ' q.2 w' → K (a.put o.dst v') w') : o.wpIn (WF r) n P a w K Q := by
  unfold Oper.wpIn
  refine ⟨fun _ _ => trivial, ?_⟩
  rw [Oper.semAt_eq _ _ _ hnd]
  cases out with
  | val v =>
    obtain ⟨nx, v', h1, h2, h3⟩ := hout
    rw [h1]
    have hgo := hv v rfl v' h3
    cases nx <;> simp only [nextVal, Option.some.injEq] at h2 <;> first | (cases h2; done) | (subst h2; exact hgo)
  | new ob mk =>
    obtain ⟨v', obj, x, h1, h2, h3, h4, h5⟩ := hout
    rw [h1]
    exact hn ob mk rfl v' obj x h2 h3 h4 h5
  | eff v m' =>
    obtain ⟨nx, v', w', σ', h1, h2, h3, hm', hf'⟩ := hout
    rw [h1]
    have hgo := he v m' rfl v' w' σ' h3 hm' hf'
    cases nx <;> simp only [nextVal, Option.some.injEq] at h2 <;> first | (cases h2; done) | (subst h2; exact hgo)
  | enter f args =>
    obtain ⟨hne, hgo⟩ := hc f args rfl
    cases f with
    | fn f =>
      obtain ⟨args', h1, h2⟩ := hout
      rw [h1, Oper.uponIn_enter]
      refine ⟨WF_depth r, callsIn_W ((hcall.fn f args m hne σ w args' h2 hM).mono ?_)⟩
      rintro e w' ⟨q, hq, σ', v', rfl, hf', hv', hm'⟩
      exact hgo q hq v' w' σ' hf' hv' hm'
    | yld i =>
      obtain ⟨args', x, h0, h1, h2⟩ := hout
      obtain ⟨f, tmps, as, body, g1, g2⟩ := hcall.yld i args m hne σ w args' x h0 h2 hM
      rw [h1, g1, Oper.uponIn_round]
      refine ⟨WF_depth r, (g2 r _).mono ?_⟩
      rintro e w' ⟨q, hq, σ', v', rfl, hf', hv', hm'⟩
      exact hgo q hq v' w' σ' hf' hv' hm'
theorem evOps_wp (hE : EOK E P) {call : CallF} (hcall : CallOK E P w0 call) {r : Option Nat} {n : Nat} {N : Nat} {ops : Array Oper} {Q : Exit → Act → World → Prop} : ∀ (l : List Oper) (k : Nat), ops.toList.drop k = l → ∀ (t : T Value) (m : Mem) (σ : Sg) (a : Act) (w : World),
    evOps E call N ops l t m ≠ [] → TR σ N t a → MR E w0 σ m w →
    (∀ r ∈ evOps E call N ops l t m, ∀ σ' a' w', FG σ m w σ' r.2 w' → TR σ' N r.1 a' → MR E w0 σ' r.2 w' → a'.defers = a.defers → Q .normal a' w') → wpOpsIn (WF r) n P ops Q (List.range' k l.length) a w := by
  intro l
  induction l with
  | nil =>
    intro k _ t m σ a w _ hT hM hQ
    exact hQ (t, m) (by simp [evOps]) σ a w (FG.refl σ m w) hT hM rfl
  | cons o l ih =>
    intro k hk t m σ a w hne hT hM hQ
    have hok : ops[k]? = some o := by
      have : (ops.toList.drop k)[0]? = some o := by rw [hk]; rfl
      simpa using this
    have hk' : ops.toList.drop (k + 1) = l := by
      rw [← List.drop_drop, hk]; rfl
    simp only [List.length_cons, List.range'_succ, wpOpsIn, hok]
    have hput : ∀ (d : Option Tmp) (v : Value), (a.put d v).defers = a.defers := by intro d v; cases d <;> rfl
    simp only [evOps] at hne hQ
    split at hne
    · exact absurd rfl hne
    · rename_i hw
      rw [hw] at hQ
      simp only at hQ
      rw [wanted_sound hT hw]
      simp only [Bool.false_eq_true, if_false]
      exact ⟨fun _ _ => trivial, ih (k + 1) hk' _ m σ _ w hne (hT.put o.dst (VR.undef σ)) hM (fun r hr σ' a' w' h1 h2 h3 h4 => hQ r hr σ' a' w' h1 h2 h3 (h4.trans (hput _ _)))⟩
    · rename_i hw
      rw [hw] at hQ
      simp only at hQ
      rw [wanted_sound hT hw]
      simp only [if_true]
      have hsrc : evOp E (evalT t) o m ≠ [] := by intro e; rw [e] at hne; exact hne rfl
      obtain ⟨out, hmem, hout⟩ := evOp_sound (P := P) (m := m) (w := w) hE hM (evalT_sound hT) o hsrc
      obtain ⟨hne', hsub⟩ := bindL_ne hne out hmem
      have hQ' := fun r hr => hQ r (hsub r hr)
      refine oper_wp hcall (not_defer hsrc) hM hout ?_ ?_ ?_ ?_
      · rintro v rfl v' h3
        exact ih (k + 1) hk' _ m σ _ w hne' (hT.put o.dst h3) hM (fun r hr σ' a' w' g1 g2 g3 g4 => hQ' r hr σ' a' w' g1 g2 g3 (g4.trans (hput _ _)))
      · rintro ob mk rfl v' obj x h2 h3 h4 h5
        obtain ⟨hm', hf'⟩ := hM.new (id := m.n) (hM.fresh m.n (Nat.le_refl _)) (n' := m.n + 1) (by omega) (by omega) h2 h4
        have hf' := hf' (Nat.le_refl _)
        exact ih (k + 1) hk' _ _ _ _ _ hne' ((hT.mono hf'.ext).put o.dst (h5 _ _ (if_pos rfl))) hm' (fun r hr σ' a' w' g1 g2 g3 g4 => hQ' r hr σ' a' w' (hf'.trans g1) g2 g3 (g4.trans (hput _ _)))
      · rintro v m' rfl v' w' σ' h3 hm' hf'
        exact ih (k + 1) hk' _ _ _ _ _ hne' ((hT.mono hf'.ext).put o.dst h3) hm' (fun r hr σ' a' w' g1 g2 g3 g4 => hQ' r hr σ' a' w' (hf'.trans g1) g2 g3 (g4.trans (hput _ _)))
      · rintro f args rfl
        simp only at hne' hsub
        refine ⟨by intro e; rw [e] at hne'; exact hne' rfl, ?_⟩
        intro q hq v' w' σ' hf' hv' hm'
        obtain ⟨hne2, hsub2⟩ := bindL_ne hne' q hq
        exact ih (k + 1) hk' _ _ _ _ _ hne2 ((hT.mono hf'.ext).put o.dst hv') hm' (fun r2 hr2 σ2 a2 w2 g1 g2 g3 g4 => hQ' r2 (hsub2 r2 hr2) σ2 a2 w2 (hf'.trans g1) g2 g3 (g4.trans (hput _ _)))
end Go.AS
set_option linter.unusedSectionVars false
namespace Go.AS
open Go.RowKit
variable [Rho]
variable {E : Env} {P : Program} {w0 : World}
theorem callA_congr {ρ ρ2 : Operand → Value} (c : Call) (m : Mem) (h : ∀ x ∈ c.operands, ρ x = ρ2 x) : callA E ρ c m = callA E ρ2 c m := by
  have ha : ∀ x ∈ c.args, ρ x = ρ2 x := fun x hx => h x (by simp [Call.operands, hx])
  have h1 : ∀ {x : Operand}, c.args.toList = [x] → ρ x = ρ2 x := fun hx => ha _ (by rw [← Array.mem_toList_iff, hx]; simp)
  have h2 : ∀ {x y : Operand}, c.args.toList = [x, y] → ρ x = ρ2 x ∧ ρ y = ρ2 y := fun hx => ⟨ha _ (by rw [← Array.mem_toList_iff, hx]; simp), ha _ (by rw [← Array.mem_toList_iff, hx]; simp)⟩
  have h3 : c.args.toList.map ρ = c.args.toList.map ρ2 := List.map_congr_left fun x hx => ha x (Array.mem_toList_iff.1 hx)
  unfold callA
  split
  · split
    · rename_i hx; rw [h1 hx]
    · rfl
  · split
    · rename_i hx; rw [(h2 hx).1, (h2 hx).2]
    · rfl
  · split
    · rename_i hx; rw [(h2 hx).1, (h2 hx).2]
    · rfl
  · split
    · rename_i hx; rw [(h2 hx).1, (h2 hx).2]
    · rfl
  · split
    · rename_i hx; rw [(h2 hx).1, (h2 hx).2]
    · rfl
  · split
    · rename_i hx; rw [(h2 hx).1, (h2 hx).2]
    · rfl
  · rename_i f hc
    have hf : ρ f = ρ2 f := h f (by simp [Call.operands, hc])
    rw [hf, h3]
  · rename_i r name hc
    have hf : ρ r = ρ2 r := h r (by simp [Call.operands, hc])
    rw [hf, h3]
  · rfl
theorem evOp0_congr {ρ ρ2 : Operand → Value} (o : Oper) (m : Mem) (h : ∀ x ∈ o.op.operands, ρ x = ρ2 x) : evOp0 E ρ o m = evOp0 E ρ2 o m := by
  unfold evOp0
  have omap : ∀ {x : Option Operand}, (∀ y, x = some y → ρ y = ρ2 y) → x.map ρ = x.map ρ2 := by
    intro x hx; cases x with
    | none => rfl
    | some y => simp [hx y rfl]
  have amap : ∀ {x : Array Operand}, (∀ y ∈ x, ρ y = ρ2 y) → x.map ρ = x.map ρ2 := fun hx => Array.ext' (by
    rw [Array.toList_map, Array.toList_map]; exact List.map_congr_left fun y hy => hx y (Array.mem_toList_iff.1 hy))
  have pmap : ∀ {x : Array (Nat × Operand)}, (∀ p ∈ x, ρ p.2 = ρ2 p.2) → x.toList.map (fun p => (p.1, ρ p.2)) = x.toList.map (fun p => (p.1, ρ2 p.2)) := fun hx => List.map_congr_left fun y hy => by rw [hx y (Array.mem_toList_iff.1 hy)]
  cases hop : o.op <;> rw [hop] at h <;> simp only [Op.operands] at h <;> first
    | rfl
    | (simp only [List.mem_toArray, List.mem_cons, List.not_mem_nil, or_false, forall_eq_or_imp, forall_eq] at h
       simp only [h]
       done)
    | skip
  case build t parts => simp only [pmap fun p hp => h p.2 (by rw [List.mem_toArray]; exact List.mem_map.2 ⟨p, Array.mem_toList_iff.2 hp, rfl⟩)]
  case buildSlice t len parts => simp only [pmap fun p hp => h p.2 (by rw [List.mem_toArray]; exact List.mem_map.2 ⟨p, Array.mem_toList_iff.2 hp, rfl⟩)]
  case makeFunc fn first captured => simp only [amap fun y hy => h y (Array.mem_append.2 (.inl hy)), amap fun y hy => h y (Array.mem_append.2 (.inr hy))]
  case makeMap t r => cases r <;> rfl
  case slice t x lo hi mx =>
    have e0 : ρ x = ρ2 x := h x (by simp)
    have e1 : lo.map ρ = lo.map ρ2 := omap fun y hy => h y (by simp [hy])
    have e2 : hi.map ρ = hi.map ρ2 := omap fun y hy => h y (by simp [hy])
    have e3 : mx.map ρ = mx.map ρ2 := omap fun y hy => h y (by simp [hy])
    simp only [e0, e1, e2, e3]
  case call c => simp only [callA_congr c m h]
theorem evOp_congr {ρ ρ2 : Operand → Value} (o : Oper) (m : Mem) (h : ∀ x ∈ o.op.operands, ρ x = ρ2 x) : evOp E ρ o m = evOp E ρ2 o m := by
  unfold evOp
  rw [evOp0_congr o m h, show o.op.operands.toList.map ρ = o.op.operands.toList.map ρ2 from List.map_congr_left fun y hy => h y (Array.mem_toList_iff.1 hy)]
theorem evOp0_memFree {ρ : Operand → Value} (o : Oper) (m m2 : Mem) (h : memFree o.op = true) : evOp0 E ρ o m = evOp0 E ρ o m2 := by
  unfold evOp0
  cases hop : o.op <;> rw [hop] at h <;> first
    | (cases h; done)
    | rfl
    | skip
  case makeMap t r => cases r <;> rfl
  case call c =>
    simp only [memFree] at h
    unfold callA
    split at h <;> first | (cases h; done) | (rename_i hc; simp only [hc])
theorem evOp_memFree {ρ : Operand → Value} (o : Oper) (m m2 : Mem) (h : memFree o.op = true) : evOp E ρ o m = evOp E ρ o m2 := by
  unfold evOp
  rw [evOp0_memFree o m m2 h]
theorem evOp_at (hE : EOK E P) {σ : Sg} {m : Mem} {w : World} (h : MR E w0 σ m w) {ρ ρ' : Operand → Value} (o : Oper) (hρ : ∀ x ∈ o.op.operands, VR σ (ρ x) (ρ' x)) (hne : evOp E ρ o m ≠ []) : ∃ out ∈ evOp E ρ o m, OutOK E P w0 σ m w (execOp ρ' o) out := by
  classical
  have hc : evOp E (fun x => if x ∈ o.op.operands then ρ x else bad) o m = evOp E ρ o m := evOp_congr o m fun x hx => by simp [hx]
  rw [← hc] at hne ⊢
  refine evOp_sound hE h (fun x => ?_) o hne
  by_cases hx : x ∈ o.op.operands
  · simp only [hx, if_true]; exact hρ x hx
  · simp only [hx, if_false]; exact .any _
theorem orEdges_spec {acc : List Nat} : ∀ {l : List Edge} {s j : Nat}, (orEdges acc l s).testBit j = true → s.testBit j = true ∨ ∃ e ∈ l, Region.binds .any e = true ∧ (e.on = j ∨ (acc.getD e.on 0).testBit j = true) := by
  intro l
  induction l with
  | nil => intro s j h; exact .inl h
  | cons e l ih =>
    intro s j h
    simp only [orEdges] at h
    rcases ih h with h1 | ⟨x, hx, h2⟩
    · split at h1
      · rename_i hb
        rw [Nat.testBit_or, Nat.testBit_or] at h1
        simp only [Bool.or_eq_true] at h1
        rcases h1 with (h1 | h1) | h1
        · exact .inl h1
        · refine .inr ⟨e, by simp, hb, .inl ?_⟩
          rw [Nat.testBit_two_pow] at h1
          simpa using h1
        · exact .inr ⟨e, by simp, hb, .inr h1⟩
      · exact .inl h1
    · exact .inr ⟨x, by simp [hx], h2⟩
theorem masks_spec : ∀ (l : List Oper) (acc : List Nat), (∃ rest, masks l acc = acc ++ rest ∧ rest.length = l.length) ∧ ∀ (i : Nat) (o : Oper), l[i]? = some o → (masks l acc)[acc.length + i]? = some (orEdges ((masks l acc).take (acc.length + i)) o.after.toList 0) := by
  intro l
  induction l with
  | nil => intro acc; exact ⟨⟨[], by simp [masks], rfl⟩, fun i o h => by simp at h⟩
  | cons o l ih =>
    intro acc
    obtain ⟨⟨rest, h1, h2⟩, h3⟩ := ih (acc ++ [orEdges acc o.after.toList 0])
    simp only [masks]
    refine ⟨⟨orEdges acc o.after.toList 0 :: rest, by rw [h1]; simp, by simp [h2]⟩, fun i p hp => ?_⟩
    cases i with
    | zero =>
      cases hp
      rw [h1]
      simp
    | succ i =>
      have h4 := h3 i p (by simpa using hp)
      simp only [List.length_append, List.length_cons, List.length_nil] at h4
      rw [show acc.length + (i + 1) = acc.length + (0 + 1) + i from by omega]
      exact h4
theorem masks_closed {ops : Array Oper} {D : Nat → Bool} (hD : ∀ (i : Nat) (o : Oper), ops.toList[i]? = some o → D i = true → ∀ e ∈ o.after.toList, Region.binds .any e = true → D e.on = true) :
    ∀ (i j : Nat), D i = true → ((masks ops.toList []).getD i 0).testBit j = true → D j = true := by
  intro i
  induction i using Nat.strongRecOn with
  | _ i ih =>
    intro j hi hb
    have h3 := (masks_spec ops.toList []).2 i
    simp only [List.length_nil, Nat.zero_add] at h3
    cases ho : ops.toList[i]? with
    | none =>
      obtain ⟨rest, h1, h2⟩ := (masks_spec ops.toList []).1
      have hlen : (masks ops.toList []).length = ops.toList.length := by rw [h1]; simpa using h2
      have hge : ops.toList.length ≤ i := by
        rcases Nat.lt_or_ge i ops.toList.length with h | h
        · rw [List.getElem?_eq_getElem h] at ho; cases ho
        · exact h
      rw [List.getD_eq_getElem?_getD, List.getElem?_eq_none (by omega)] at hb
      simp at hb
    | some o =>
      rw [List.getD_eq_getElem?_getD, h3 o ho] at hb
      simp only [Option.getD_some] at hb
      rcases orEdges_spec hb with h1 | ⟨e, he, hbi, h1⟩
      · simp at h1
      · have hon := hD i o ho hi e he hbi
        rcases h1 with rfl | h1
        · exact hon
        · by_cases hlt : e.on < i
          · refine ih e.on hlt j hon ?_
            have : ((masks ops.toList []).take i).getD e.on 0 = (masks ops.toList []).getD e.on 0 := by
              rw [List.getD_eq_getElem?_getD, List.getD_eq_getElem?_getD, List.getElem?_take, if_pos hlt]
            rwa [this] at h1
          · rw [List.getD_eq_getElem?_getD, List.getElem?_eq_none (by simp; omega)] at h1
            simp at h1
theorem edgesOK_spec : ∀ {l : List Oper} {j : Nat}, edgesOK l j = true → ∀ (i : Nat) (o : Oper), l[i]? = some o → ∀ e ∈ o.after.toList, Region.binds .any e = true → e.on < j + i := by
  intro l
  induction l with
  | nil => intro j _ i o h; simp at h
  | cons p l ih =>
    intro j h i o ho e he hb
    simp only [edgesOK] at h
    cases h1 : (p.after.toList.all fun e => !Region.binds .any e || Nat.blt e.on j) with
    | false => rw [h1] at h; cases h
    | true =>
      rw [h1] at h
      cases i with
      | zero =>
        cases ho
        have := List.all_eq_true.1 h1 e he
        rw [hb] at this
        simp only [Bool.not_true, Bool.false_or] at this
        exact Nat.le_of_ble_eq_true this
      | succ i =>
        have := ih h i o (by simpa using ho) e he hb
        omega
theorem conflOK_spec {ops : Array Oper} {B : List Nat} {o : Oper} {b : Nat} : ∀ {l : List Oper} {i : Nat}, conflOK ops B o b l i = true → ∀ (k : Nat) (p : Oper), l[k]? = some p → confl ops p o = true → b.testBit (i + k) = true := by
  intro l
  induction l with
  | nil => intro i _ k p h; simp at h
  | cons q l ih =>
    intro i h k p hp hc
    simp only [conflOK] at h
    cases k with
    | zero =>
      cases hp
      rw [hc] at h
      simp only at h
      cases hb : Nat.testBit b i with
      | true => first | exact hb | rfl
      | false => rw [hb] at h; cases h
    | succ k =>
      have h2 : conflOK ops B o b l (i + 1) = true := by
        split at h
        · cases hb : Nat.testBit b i with
          | true => rw [hb] at h; exact h
          | false => rw [hb] at h; cases h
        · exact h
      have := ih h2 k p (by simpa using hp) hc
      rw [show i + (k + 1) = i + 1 + k from by omega]; exact this
theorem tmpsOK_spec {ops : Array Oper} {B : List Nat} : ∀ {l : List Oper} {j : Nat}, tmpsOK ops B l j = true → ∀ (k : Nat) (o : Oper), l[k]? = some o → ∀ (i : Nat) (p : Oper), i < j + k → ops.toList[i]? = some p → confl ops p o = true → (B.getD (j + k) 0).testBit i = true := by
  intro l
  induction l with
  | nil => intro j _ k o h; simp at h
  | cons q l ih =>
    intro j h k o ho i p hi hp hc
    simp only [tmpsOK] at h
    cases h1 : conflOK ops B q (B.getD j 0) (ops.toList.take j) 0 with
    | false => rw [h1] at h; cases h
    | true =>
      rw [h1] at h
      cases k with
      | zero =>
        cases ho
        have := conflOK_spec h1 i p (by rw [List.getElem?_take, if_pos (by omega)]; exact hp) hc
        simpa using this
      | succ k =>
        have := ih h k o (by simpa using ho) i p (by omega) hp hc
        rw [show j + (k + 1) = j + 1 + k from by omega]; exact this
theorem memN_iff {x : Nat} : ∀ {l : List Nat}, memN x l = true ↔ x ∈ l := by
  intro l
  induction l with
  | nil => simp [memN]
  | cons y l ih =>
    simp only [memN]
    cases h : Nat.beq x y with
    | true => simp [Nat.eq_of_beq_eq_true h]
    | false =>
      have : x ≠ y := fun e => by rw [e, Nat.beq_refl] at h; cases h
      simp [this, ih]
end Go.AS
set_option linter.unusedSectionVars false
namespace Go.AS
open Go.RowKit
variable [Rho]
variable {E : Env} {P : Program} {w0 : World}
def Cl.isEff : Cl → Bool
  | .eff _ _ => true
  | _ => false
def Cl.isAlloc : Cl → Bool
  | .alloc _ _ => true
  | _ => false
structure RunOK (E : Env) (call : CallF) (ops : Array Oper) (B : List Nat) (n N N0 : Nat) (M0 : Mem) (t0 : T Value) (S : Nat → DS) (c : Nat → Cl) : Prop where
  start : S 0 = ⟨t0, M0, [], [], [], 0⟩
  cls : ∀ k o, ops.toList[k]? = some o → clsD E call ops n N0 M0 (S k) o (B.getD k 0) = some (c k)
  step : ∀ k o, ops.toList[k]? = some o → S (k + 1) = applyD N N0 (S k) k o (B.getD k 0) (c k)
theorem runD_ok {call : CallF} {ops : Array Oper} {B : List Nat} {n N N0 : Nat} {M0 : Mem} : ∀ (l : List Oper) (i : Nat) (S0 Sf : DS), runD E call ops B n N N0 M0 l i S0 = some Sf →
    ∃ (S : Nat → DS) (c : Nat → Cl), S 0 = S0 ∧ S l.length = Sf ∧ ∀ (k : Nat) (o : Oper), l[k]? = some o → clsD E call ops n N0 M0 (S k) o (B.getD (i + k) 0) = some (c k) ∧ S (k + 1) = applyD N N0 (S k) (i + k) o (B.getD (i + k) 0) (c k) := by
  intro l
  induction l with
  | nil => intro i S0 Sf h; simp [runD] at h; exact ⟨fun _ => S0, fun _ => .skip, rfl, h, fun k o ho => by simp at ho⟩
  | cons o l ih =>
    intro i S0 Sf h
    simp only [runD] at h
    split at h
    · cases h
    · rename_i c0 hc
      obtain ⟨S, c, h1, h2, h3⟩ := ih (i + 1) _ Sf h
      refine ⟨fun k => match k with | 0 => S0 | k + 1 => S k, fun k => match k with | 0 => c0 | k + 1 => c k, rfl, h2, fun k p hp => ?_⟩
      cases k with
      | zero => cases hp; exact ⟨hc, h1⟩
      | succ k =>
        have := h3 k p (by simpa using hp)
        rw [show i + (k + 1) = i + 1 + k from by omega]
        exact this
section
variable {call : CallF} {ops : Array Oper} {B : List Nat} {n N N0 : Nat} {M0 : Mem} {t0 : T Value} {S : Nat → DS} {c : Nat → Cl}
def chainOf (c : Nat → Cl) (M0 : Mem) (D : Nat → Bool) : Nat → Mem
  | 0 => M0
  | k + 1 => match D k, c k with
    | true, .eff _ m => m
    | _, _ => chainOf c M0 D k
def Mg (c : Nat → Cl) (B : List Nat) (n : Nat) (D : Nat → Bool) (j : Nat) : Prop := ∃ e, e < n ∧ D e = true ∧ (c e).isEff = true ∧ (B.getD e 0).testBit j = true
theorem dropAllocs_mem {b : Nat} : ∀ {l : List (Nat × AObj)} {x : Nat × AObj}, x ∈ dropAllocs b l ↔ x ∈ l ∧ b.testBit x.1 = false := by
  intro l
  induction l with
  | nil => intro x; simp [dropAllocs]
  | cons y l ih =>
    intro x
    obtain ⟨j, ob⟩ := y
    simp only [dropAllocs]
    cases h : Nat.testBit b j with
    | true =>
      simp only [cond, ih, List.mem_cons]
      constructor
      · exact fun ⟨h1, h2⟩ => ⟨.inr h1, h2⟩
      · rintro ⟨rfl | h1, h2⟩
        · rw [h] at h2; cases h2
        · exact ⟨h1, h2⟩
    | false =>
      simp only [cond, List.mem_cons, ih]
      constructor
      · rintro (rfl | ⟨h1, h2⟩)
        · exact ⟨.inl rfl, h⟩
        · exact ⟨.inr h1, h2⟩
      · rintro ⟨rfl | h1, h2⟩
        · exact .inl rfl
        · exact .inr ⟨h1, h2⟩
structure Recs (c : Nat → Cl) (ops : Array Oper) (B : List Nat) (M0 : Mem) (S : Nat → DS) (k : Nat) : Prop where
  effs : ∀ e m, (e, m) ∈ (S k).effs ↔ e < k ∧ ∃ v, c e = .eff v m
  sorted : (S k).effs.Pairwise (fun x y => y.1 < x.1)
  chain : (S k).chain = chainOf c M0 (fun _ => true) k
  allocs : ∀ i ob, (i, ob) ∈ (S k).allocs ↔ i < k ∧ (∃ mk, c i = .alloc ob mk) ∧ ∀ e, e < k → i < e → (c e).isEff = true → (B.getD e 0).testBit i = false
  reads : ∀ i o t v, (i, o, t, v) ∈ (S k).reads ↔ i < k ∧ ops.toList[i]? = some o ∧ c i = .read v ∧ t = (S i).t
  mask : ∀ j, (S k).mask.testBit j = true ↔ ∃ e, e < k ∧ (c e).isEff = true ∧ (B.getD e 0).testBit j = true
theorem recs (R : RunOK E call ops B n N N0 M0 t0 S c) : ∀ k, k ≤ ops.toList.length → Recs c ops B M0 S k := by
  intro k
  induction k with
  | zero =>
    intro _
    refine ⟨fun e m => ?_, ?_, ?_, fun i ob => ?_, fun i o t v => ?_, fun j => ?_⟩ <;> rw [R.start] <;> simp [chainOf]
  | succ k ih =>
    intro hk
    have I := ih (by omega)
    have ho : ops.toList[k]? = some (ops.toList[k]'(by omega)) := List.getElem?_eq_getElem (by omega)
    generalize ops.toList[k]'(by omega) = o at ho
    have hs := R.step k o ho
    have lt : ∀ {e : Nat}, e < k + 1 ↔ e < k ∨ e = k := fun {e} => by omega
    have noEff : (c k).isEff = false → ∀ {e m}, ((e < k + 1 ∧ ∃ v, c e = .eff v m) ↔ (e < k ∧ ∃ v, c e = .eff v m)) := by
      intro hne e m
      constructor
      · rintro ⟨h1, v, h2⟩
        rcases lt.1 h1 with h3 | rfl
        · exact ⟨h3, v, h2⟩
        · rw [h2] at hne; cases hne
      · rintro ⟨h1, h2⟩; exact ⟨by omega, h2⟩
    have noAlloc : (c k).isEff = false → (∀ ob mk, c k ≠ .alloc ob mk) → ∀ {i ob}, ((i < k + 1 ∧ (∃ mk, c i = .alloc ob mk) ∧ ∀ e, e < k + 1 → i < e → (c e).isEff = true → (B.getD e 0).testBit i = false) ↔ (i < k ∧ (∃ mk, c i = .alloc ob mk) ∧ ∀ e, e < k → i < e → (c e).isEff = true → (B.getD e 0).testBit i = false)) := by
      intro hne hna i ob
      constructor
      · rintro ⟨h1, ⟨mk, h2⟩, h3⟩
        rcases lt.1 h1 with h4 | rfl
        · exact ⟨h4, ⟨mk, h2⟩, fun e he => h3 e (by omega)⟩
        · exact absurd h2 (hna ob mk)
      · rintro ⟨h1, h2, h3⟩
        refine ⟨by omega, h2, fun e he hie hef => ?_⟩
        rcases lt.1 he with h4 | rfl
        · exact h3 e h4 hie hef
        · rw [hne] at hef; cases hef
    have noMask : (c k).isEff = false → ∀ {j}, ((∃ e, e < k + 1 ∧ (c e).isEff = true ∧ (B.getD e 0).testBit j = true) ↔ (∃ e, e < k ∧ (c e).isEff = true ∧ (B.getD e 0).testBit j = true)) := by
      intro hne j
      constructor
      · rintro ⟨e, h1, h2, h3⟩
        rcases lt.1 h1 with h4 | rfl
        · exact ⟨e, h4, h2, h3⟩
        · rw [hne] at h2; cases h2
      · rintro ⟨e, h1, h2⟩; exact ⟨e, by omega, h2⟩
    have noRead : (∀ v, c k ≠ .read v) → ∀ {i o t v}, ((i < k + 1 ∧ ops.toList[i]? = some o ∧ c i = .read v ∧ t = (S i).t) ↔ (i < k ∧ ops.toList[i]? = some o ∧ c i = .read v ∧ t = (S i).t)) := by
      intro hnr i o t v
      constructor
      · rintro ⟨h1, h2, h3, h4⟩
        rcases lt.1 h1 with h5 | rfl
        · exact ⟨h5, h2, h3, h4⟩
        · exact absurd h3 (hnr v)
      · rintro ⟨h1, h2⟩; exact ⟨by omega, h2⟩
    have chN : (c k).isEff = false → chainOf c M0 (fun _ => true) (k + 1) = chainOf c M0 (fun _ => true) k := by
      intro hne
      simp only [chainOf]
      split
      · rename_i h2; rw [h2] at hne; cases hne
      · rfl
    cases hc : c k with
    | skip =>
      have e1 : (c k).isEff = false := by rw [hc]; rfl
      rw [hc] at hs
      refine ⟨fun e m => ?_, ?_, ?_, fun i ob => ?_, fun i o t v => ?_, fun j => ?_⟩ <;> rw [hs] <;> simp only [applyD]
      · rw [noEff e1]; exact I.effs e m
      · exact I.sorted
      · rw [chN e1]; exact I.chain
      · rw [noAlloc e1 (fun ob mk => by rw [hc]; simp)]; exact I.allocs i ob
      · rw [noRead (fun v => by rw [hc]; simp)]; exact I.reads i o t v
      · rw [noMask e1]; exact I.mask j
    | pure v0 =>
      have e1 : (c k).isEff = false := by rw [hc]; rfl
      rw [hc] at hs
      refine ⟨fun e m => ?_, ?_, ?_, fun i ob => ?_, fun i o t v => ?_, fun j => ?_⟩ <;> rw [hs] <;> simp only [applyD]
      · rw [noEff e1]; exact I.effs e m
      · exact I.sorted
      · rw [chN e1]; exact I.chain
      · rw [noAlloc e1 (fun ob mk => by rw [hc]; simp)]; exact I.allocs i ob
      · rw [noRead (fun v => by rw [hc]; simp)]; exact I.reads i o t v
      · rw [noMask e1]; exact I.mask j
    | read v0 =>
      have e1 : (c k).isEff = false := by rw [hc]; rfl
      have hs' := hs
      rw [hc] at hs
      refine ⟨fun e m => ?_, ?_, ?_, fun i ob => ?_, fun i p t v => ?_, fun j => ?_⟩ <;> rw [hs] <;> simp only [applyD]
      · rw [noEff e1]; exact I.effs e m
      · exact I.sorted
      · rw [chN e1]; exact I.chain
      · rw [noAlloc e1 (fun ob mk => by rw [hc]; simp)]; exact I.allocs i ob
      · rw [List.mem_cons, I.reads i p t v]
        constructor
        · rintro (h | ⟨h1, h2⟩)
          · cases h; exact ⟨by omega, ho, hc, rfl⟩
          · exact ⟨by omega, h2⟩
        · rintro ⟨h1, h2, h3, h4⟩
          rcases lt.1 h1 with h5 | rfl
          · exact .inr ⟨h5, h2, h3, h4⟩
          · rw [ho] at h2; cases h2
            rw [hc] at h3; cases h3
            exact .inl (by rw [h4])
      · rw [noMask e1]; exact I.mask j
    | alloc ob0 mk0 =>
      have e1 : (c k).isEff = false := by rw [hc]; rfl
      rw [hc] at hs
      refine ⟨fun e m => ?_, ?_, ?_, fun i ob => ?_, fun i o t v => ?_, fun j => ?_⟩ <;> rw [hs] <;> simp only [applyD]
      · rw [noEff e1]; exact I.effs e m
      · exact I.sorted
      · rw [chN e1]; exact I.chain
      · rw [List.mem_cons, I.allocs i ob]
        constructor
        · rintro (h | ⟨h1, h2, h3⟩)
          · cases h; exact ⟨by omega, ⟨mk0, hc⟩, fun e he hie => by omega⟩
          · refine ⟨by omega, h2, fun e he hie hef => ?_⟩
            rcases lt.1 he with h4 | rfl
            · exact h3 e h4 hie hef
            · rw [e1] at hef; cases hef
        · rintro ⟨h1, ⟨mk, h2⟩, h3⟩
          rcases lt.1 h1 with h4 | rfl
          · exact .inr ⟨h4, ⟨mk, h2⟩, fun e he => h3 e (by omega)⟩
          · rw [hc] at h2; cases h2; exact .inl rfl
      · rw [noRead (fun v => by rw [hc]; simp)]; exact I.reads i o t v
      · rw [noMask e1]; exact I.mask j
    | eff v0 m0 =>
      rw [hc] at hs
      refine ⟨fun e m => ?_, ?_, ?_, fun i ob => ?_, fun i o t v => ?_, fun j => ?_⟩ <;> rw [hs] <;> simp only [applyD]
      · rw [List.mem_cons, I.effs e m]
        constructor
        · rintro (h | ⟨h1, h2⟩)
          · cases h; exact ⟨by omega, v0, hc⟩
          · exact ⟨by omega, h2⟩
        · rintro ⟨h1, v, h2⟩
          rcases lt.1 h1 with h3 | rfl
          · exact .inr ⟨h3, v, h2⟩
          · rw [hc] at h2; cases h2; exact .inl rfl
      · rw [List.pairwise_cons]
        exact ⟨fun x hx => ((I.effs x.1 x.2).1 hx).1, I.sorted⟩
      · simp only [chainOf, hc]
      · rw [dropAllocs_mem, I.allocs i ob]
        constructor
        · rintro ⟨⟨h1, h2, h3⟩, h4⟩
          refine ⟨by omega, h2, fun e he hie hef => ?_⟩
          rcases lt.1 he with h5 | rfl
          · exact h3 e h5 hie hef
          · exact h4
        · rintro ⟨h1, ⟨mk, h2⟩, h3⟩
          rcases lt.1 h1 with h4 | rfl
          · exact ⟨⟨h4, ⟨mk, h2⟩, fun e he => h3 e (by omega)⟩, h3 k (by omega) h4 (by rw [hc]; rfl)⟩
          · rw [hc] at h2; cases h2
      · rw [noRead (fun v => by rw [hc]; simp)]; exact I.reads i o t v
      · rw [Nat.testBit_or, Bool.or_eq_true, I.mask j]
        constructor
        · rintro (⟨e, h1, h2⟩ | h)
          · exact ⟨e, by omega, h2⟩
          · exact ⟨k, by omega, by rw [hc]; rfl, h⟩
        · rintro ⟨e, h1, h2, h3⟩
          rcases lt.1 h1 with h4 | rfl
          · exact .inl ⟨e, h4, h2, h3⟩
          · exact .inr h3
theorem allBits_spec {b : Nat} : ∀ {l : List (Nat × Mem)}, allBits b l = true → ∀ x ∈ l, b.testBit x.1 = true := by
  intro l
  induction l with
  | nil => intro _ x hx; cases hx
  | cons y l ih =>
    intro h x hx
    obtain ⟨e, m⟩ := y
    simp only [allBits] at h
    cases hb : Nat.testBit b e with
    | false => rw [hb] at h; cases h
    | true =>
      rw [hb] at h
      cases hx with
      | head => exact hb
      | tail _ hm => exact ih h x hm
theorem notLive_spec {t : T AObj} {i : Nat} (h : notLive t i = true) : ∀ o, t.get i = some o → o.live = false := by
  intro o ho
  unfold notLive at h
  rw [ho] at h
  cases o with
  | dead => rfl
  | _ => cases h
theorem freshIds_spec {N0 mask : Nat} {t : T AObj} : ∀ {n : Nat}, freshIds N0 mask t n = true → ∀ j, j < n → mask.testBit j = true ∨ notLive t (N0 + j) = true := by
  intro n
  induction n with
  | zero => intro _ j hj; omega
  | succ n ih =>
    intro h j hj
    simp only [freshIds] at h
    have h1 : cond (Nat.testBit mask n) true (notLive t (N0 + n)) = true := by
      cases hx : cond (Nat.testBit mask n) true (notLive t (N0 + n)) with
      | true => rfl
      | false => rw [hx] at h; cases h
    rw [h1] at h
    rcases Nat.lt_or_ge j n with h2 | h2
    · exact ih h j h2
    · obtain rfl : j = n := by omega
      cases hb : Nat.testBit mask j with
      | true => exact .inl rfl
      | false => rw [hb] at h1; exact .inr h1
theorem checkReads_spec {b : Nat} {m : Mem} : ∀ {l : List (Nat × Oper × T Value × Value)}, checkReads E b m l = true → ∀ x ∈ l, b.testBit x.1 = true ∨ readsAs E x.2.1 x.2.2.1 x.2.2.2 m = true := by
  intro l
  induction l with
  | nil => intro _ x hx; cases hx
  | cons y l ih =>
    intro h x hx
    obtain ⟨j, o, t, v⟩ := y
    simp only [checkReads] at h
    have h1 : cond (Nat.testBit b j) true (readsAs E o t v m) = true := by
      cases hx : cond (Nat.testBit b j) true (readsAs E o t v m) with
      | true => rfl
      | false => rw [hx] at h; cases h
    rw [h1] at h
    cases hx with
    | head =>
      cases hb : Nat.testBit b j with
      | true => exact .inl (by first | exact hb | rfl)
      | false => rw [hb] at h1; exact .inr h1
    | tail _ hm => exact ih h x hm
theorem readsAs_spec {o : Oper} {t : T Value} {v : Value} {m : Mem} (h : readsAs E o t v m = true) : evOp E (evalT t) o m = [.val v] := by
  unfold readsAs at h
  split at h
  · rename_i x hx
    rw [hx, (veq_sound 30).1 x v h]
  · cases h
theorem checkBack_spec {M0 : Mem} {o : Oper} {t : T Value} {v : Value} {b : Nat} : ∀ {l : List (Nat × Mem)}, l.Pairwise (fun x y => y.1 < x.1) → checkBack E M0 o t v b l = true →
    (∀ x ∈ l, (∀ y ∈ l, x.1 < y.1 → b.testBit y.1 = false) → readsAs E o t v x.2 = true) ∧ ((∀ y ∈ l, b.testBit y.1 = false) → readsAs E o t v M0 = true) := by
  intro l
  induction l with
  | nil => intro _ h; exact ⟨fun x hx => absurd hx (by simp), fun _ => h⟩
  | cons p l ih =>
    intro hs h
    obtain ⟨e, m⟩ := p
    rw [List.pairwise_cons] at hs
    simp only [checkBack] at h
    cases h1 : readsAs E o t v m with
    | false => rw [h1] at h; cases h
    | true =>
      rw [h1] at h
      refine ⟨fun x hx hy => ?_, fun hy => ?_⟩
      · cases hx with
        | head => exact h1
        | tail _ hm =>
          have hlt := hs.1 x hm
          have hbe := hy (e, m) (by simp) hlt
          simp only at hbe
          rw [hbe] at h
          exact (ih hs.2 h).1 x hm (fun y hy2 => hy y (by simp [hy2]))
      · have hbe := hy (e, m) (by simp)
        simp only at hbe
        rw [hbe] at h
        exact (ih hs.2 h).2 (fun y hy2 => hy y (by simp [hy2]))
end
end Go.AS
set_option linter.unusedSectionVars false
namespace Go.AS
open Go.RowKit
variable [Rho]
variable {E : Env} {P : Program} {w0 : World}
theorem MR.sub {σ : Sg} {m m1 : Mem} {w : World} (h : MR E w0 σ m w) (hn : m1.n = m.n) (hs : ∀ i o, m1.t.get i = some o → o.live = true → m.t.get i = some o) : MR E w0 σ m1 w :=
  ⟨h.below, h.t0, fun i o hi ho => h.obj i o (hs i o hi ho) ho, fun i j o o' x y hi ho hj ho' => h.inj i j o o' x y (hs i o hi ho) ho (hs j o' hj ho') ho', fun i hi => h.fresh i (hn ▸ hi)⟩
theorem LiveB.sub {σ : Sg} {m m1 : Mem} {b : Nat} (hs : ∀ i o, m1.t.get i = some o → o.live = true → m.t.get i = some o) (h : LiveB σ m1 b) : LiveB σ m b := by
  obtain ⟨i, o, x, h1, h2, h3, h4⟩ := h
  exact ⟨i, o, x, hs i o h1 h2, h2, h3, h4⟩
theorem MR.putBack {σ : Sg} {m : Mem} {w : World} (h : MR E w0 σ m w) {id : Nat} {x : Inf} (hx : σ id = some x) {o : AObj} {ob : Obj} (hB : w0.heap.size ≤ x.b) (hl : ¬ LiveB σ m x.b)
    (hob : w.heap[x.b]? = some ob) (hor : OR E σ x o ob) : MR E w0 σ ⟨m.n, m.t.set id o⟩ w := by
  refine ⟨h.below, h.t0, ?_, ?_, h.fresh⟩
  · intro j p hj hp
    by_cases e : id = j
    · subst e
      rw [T.get_set_same] at hj
      cases hj
      exact ⟨x, ob, hx, hB, hob, hor⟩
    · rw [T.get_set_ne _ _ e] at hj
      exact h.obj j p hj hp
  · intro j k p q z z' hj hp hk hq hz hz' e
    by_cases e1 : id = j <;> by_cases e2 : id = k
    · omega
    · subst e1
      rw [T.get_set_ne _ _ e2] at hk
      rw [hx] at hz; cases hz
      exact absurd ⟨k, q, z', hk, hq, hz', e.symm⟩ hl
    · subst e2
      rw [T.get_set_ne _ _ e1] at hj
      rw [hx] at hz'; cases hz'
      exact absurd ⟨j, p, z, hj, hp, hz, e⟩ hl
    · rw [T.get_set_ne _ _ e1] at hj
      rw [T.get_set_ne _ _ e2] at hk
      exact h.inj j k p q z z' hj hp hk hq hz hz' e
section
variable {call : CallF} {ops : Array Oper} {B : List Nat} {n N N0 : Nat} {M0 : Mem} {t0 : T Value} {S : Nat → DS} {c : Nat → Cl}
open Classical in
noncomputable def W (c : Nat → Cl) (ops : Array Oper) (N N0 : Nat) (t0 : T Value) (D : Nat → Bool) : Nat → Nat → Value
  | 0, τ => tv t0 τ
  | k + 1, τ => if D k = true ∧ (∃ o, ops.toList[k]? = some o ∧ o.dst = some τ) ∧ τ < N then (c k).val N0 k else W c ops N N0 t0 D k τ
open Classical in
noncomputable def PM (c : Nat → Cl) (B : List Nat) (n N0 : Nat) (M0 : Mem) (D : Nat → Bool) : Nat → T AObj
  | 0 => (chainOf c M0 D n).t
  | k + 1 => match c k with
    | .alloc ob _ => if D k = true ∧ ¬ Mg c B n D k then (PM c B n N0 M0 D k).set (N0 + k) ob else PM c B n N0 M0 D k
    | _ => PM c B n N0 M0 D k
theorem tv_put (N : Nat) (t : T Value) (d : Option Tmp) (v : Value) (τ : Nat) : tv (put N t d v) τ = if d = some τ ∧ τ < N then v else tv t τ := by
  cases d with
  | none => simp [AS.put]
  | some d =>
    simp only [AS.put]
    cases h : Nat.blt d N with
    | true =>
      have h' : d < N := Nat.le_of_ble_eq_true h
      simp only [tv, T.get_set]
      by_cases e : d = τ
      · subst e; simp [h']
      · simp [e]
    | false =>
      have h' : ¬ d < N := fun h1 => by
        have h2 : Nat.blt d N = true := Nat.ble_eq_true_of_le h1
        rw [h2] at h; cases h
      by_cases e : d = τ
      · subst e; simp [h']
      · simp [e]
theorem applyD_t (S : DS) (i : Nat) (o : Oper) (b : Nat) (c : Cl) : (applyD N N0 S i o b c).t = put N S.t o.dst (c.val N0 i) := by cases c <;> rfl
theorem W_all (R : RunOK E call ops B n N N0 M0 t0 S c) : ∀ k, k ≤ ops.toList.length → ∀ τ, tv (S k).t τ = W c ops N N0 t0 (fun _ => true) k τ := by
  intro k
  induction k with
  | zero => intro _ τ; rw [R.start]; rfl
  | succ k ih =>
    intro hk τ
    have ho : ops.toList[k]? = some (ops.toList[k]'(by omega)) := List.getElem?_eq_getElem (by omega)
    generalize ops.toList[k]'(by omega) = o at ho
    rw [R.step k o ho, applyD_t, tv_put, W]
    by_cases h : o.dst = some τ ∧ τ < N
    · rw [if_pos h, if_pos ⟨rfl, ⟨o, ho, h.1⟩, h.2⟩]
    · rw [if_neg h, if_neg (fun ⟨_, ⟨p, hp, hd⟩, hN⟩ => h ⟨by rw [ho] at hp; cases hp; exact hd, hN⟩)]
      exact ih (by omega) τ
theorem W_same {D D' : Nat → Bool} {τ : Nat} : ∀ k, (∀ i, i < k → (∃ o, ops.toList[i]? = some o ∧ o.dst = some τ) → D i = D' i) → W c ops N N0 t0 D k τ = W c ops N N0 t0 D' k τ := by
  intro k
  induction k with
  | zero => intro _; rfl
  | succ k ih =>
    intro h
    simp only [W]
    rw [ih (fun i hi => h i (by omega))]
    by_cases hw : ∃ o, ops.toList[k]? = some o ∧ o.dst = some τ
    · rw [h k (by omega) hw]
    · rw [if_neg (fun ⟨_, h2, _⟩ => hw h2), if_neg (fun ⟨_, h2, _⟩ => hw h2)]
theorem W_cut {D : Nat → Bool} {τ i : Nat} : ∀ k, i ≤ k → (∀ j, i ≤ j → j < k → (∃ o, ops.toList[j]? = some o ∧ o.dst = some τ) → D j = false) → W c ops N N0 t0 D k τ = W c ops N N0 t0 D i τ := by
  intro k
  induction k with
  | zero => intro h _; obtain rfl : i = 0 := by omega
            rfl
  | succ k ih =>
    intro h h2
    rcases Nat.lt_or_ge k i with h3 | h3
    · obtain rfl : i = k + 1 := by omega
      rfl
    · simp only [W]
      rw [if_neg (fun ⟨h4, h5, _⟩ => by rw [h2 k h3 (by omega) h5] at h4; cases h4)]
      exact ih h3 (fun j hj hjk => h2 j hj (by omega))
theorem confl_dst_looks {x y : Oper} {d : Tmp} (hx : x.dst = some d) (hy : d ∈ looks ops y) : confl ops x y = true := by
  simp [confl, hx, memN_iff.2 hy]
theorem confl_looks_dst {x y : Oper} {d : Tmp} (hy : y.dst = some d) (hx : d ∈ looks ops x) : confl ops x y = true := by
  simp [confl, hy, memN_iff.2 hx]
theorem confl_dst_dst {x y : Oper} {d : Tmp} (hx : x.dst = some d) (hy : y.dst = some d) : confl ops x y = true := by
  simp [confl, hx, hy, Nat.beq_refl]
structure Stat (ops : Array Oper) (B : List Nat) (n : Nat) : Prop where
  len : ops.toList.length = n
  back : ∀ (i : Nat) (o : Oper), ops.toList[i]? = some o → ∀ e ∈ o.after.toList, Region.binds .any e = true → e.on < i
  closed : ∀ {D : Nat → Bool}, (∀ (i : Nat) (o : Oper), ops.toList[i]? = some o → D i = true → ∀ e ∈ o.after.toList, Region.binds .any e = true → D e.on = true) → ∀ (i j : Nat), D i = true → (B.getD i 0).testBit j = true → D j = true
  tmps : ∀ (k i : Nat) (o p : Oper), ops.toList[k]? = some o → i < k → ops.toList[i]? = some p → confl ops p o = true → (B.getD k 0).testBit i = true
structure Ready (ops : Array Oper) (B : List Nat) (D : Nat → Bool) (i : Nat) (o : Oper) : Prop where
  op : ops.toList[i]? = some o
  out : D i = false
  before : ∀ j, (B.getD i 0).testBit j = true → D j = true
def Down (ops : Array Oper) (D : Nat → Bool) : Prop := ∀ (i : Nat) (o : Oper), ops.toList[i]? = some o → D i = true → ∀ e ∈ o.after.toList, Region.binds .any e = true → D e.on = true
theorem getElem?_lt {α : Type} {l : List α} {i : Nat} {x : α} (h : l[i]? = some x) : i < l.length := (List.getElem?_eq_some_iff.1 h).1
theorem W_looks (T : Stat ops B n) {D : Nat → Bool} (hD : Down ops D) {i : Nat} {o : Oper} (r : Ready ops B D i o) (R : RunOK E call ops B n N N0 M0 t0 S c) {τ : Nat} (hτ : τ ∈ looks ops o) : W c ops N N0 t0 D n τ = tv (S i).t τ := by
  have hi := getElem?_lt r.op
  rw [W_all R i (by omega)]
  rw [W_cut (i := i) n (by rw [← T.len]; omega) ?_]
  · refine W_same i (fun j hj ⟨p, hp, hd⟩ => ?_)
    exact r.before j (T.tmps i j o p r.op hj hp (confl_dst_looks hd hτ))
  · rintro j hj hjn ⟨p, hp, hd⟩
    by_cases e : i = j
    · subst e; exact r.out
    · cases hDj : D j with
      | false => rfl
      | true =>
        have h1 := T.tmps j i p o hp (by omega) r.op (confl_looks_dst hd hτ)
        have := T.closed hD j i hDj h1
        rw [r.out] at this; cases this
def addD (D : Nat → Bool) (i : Nat) : Nat → Bool := fun j => D j || Nat.beq i j
theorem addD_iff {D : Nat → Bool} {i j : Nat} : addD D i j = true ↔ D j = true ∨ i = j := by
  simp only [addD, Bool.or_eq_true]
  constructor
  · rintro (h | h)
    · exact .inl h
    · exact .inr (Nat.eq_of_beq_eq_true h)
  · rintro (h | rfl)
    · exact .inl h
    · exact .inr (Nat.beq_refl _)
theorem addD_ne {D : Nat → Bool} {i j : Nat} (h : i ≠ j) : addD D i j = D j := by
  have : Nat.beq i j = false := by
    cases hb : Nat.beq i j with
    | false => rfl
    | true => exact absurd (Nat.eq_of_beq_eq_true hb) h
  simp [addD, this]
theorem W_add (T : Stat ops B n) {D : Nat → Bool} (hD : Down ops D) {i : Nat} {o : Oper} (r : Ready ops B D i o) (τ : Nat) : W c ops N N0 t0 (addD D i) n τ = if o.dst = some τ ∧ τ < N then (c i).val N0 i else W c ops N N0 t0 D n τ := by
  have hi : i < n := by rw [← T.len]; exact getElem?_lt r.op
  by_cases hd : o.dst = some τ
  · have hlate : ∀ j, i + 1 ≤ j → j < n → (∃ p, ops.toList[j]? = some p ∧ p.dst = some τ) → D j = false := by
      rintro j hj hjn ⟨p, hp, hpd⟩
      cases hDj : D j with
      | false => rfl
      | true =>
        have h1 := T.tmps j i p o hp (by omega) r.op (confl_dst_dst hd hpd)
        have := T.closed hD j i hDj h1
        rw [r.out] at this; cases this
    rw [W_cut (i := i + 1) n (by omega) (fun j hj hjn hw => by rw [addD_ne (by omega)]; exact hlate j hj hjn hw)]
    rw [W_cut (D := D) (i := i + 1) n (by omega) hlate]
    simp only [W]
    have h2 : W c ops N N0 t0 (addD D i) i τ = W c ops N N0 t0 D i τ := W_same i (fun j hj _ => addD_ne (by omega))
    by_cases hN : τ < N
    · rw [if_pos ⟨addD_iff.2 (.inr rfl), ⟨o, r.op, hd⟩, hN⟩, if_pos ⟨hd, hN⟩]
    · rw [if_neg (fun h => hN h.2.2), if_neg (fun h => hN h.2), if_neg (fun h => hN h.2.2), h2]
  · rw [if_neg (fun h => hd h.1)]
    refine W_same n (fun j hj ⟨p, hp, hpd⟩ => addD_ne ?_)
    rintro rfl
    rw [r.op] at hp; cases hp
    exact hd hpd
end
end Go.AS
set_option linter.unusedSectionVars false
namespace Go.AS
open Go.RowKit
variable [Rho]
variable {E : Env} {P : Program} {w0 : World}
section
variable {call : CallF} {ops : Array Oper} {B : List Nat} {n N N0 : Nat} {M0 : Mem} {t0 : T Value} {S : Nat → DS} {c : Nat → Cl}
theorem effOK_of {S : Nat → DS} {i : Nat} {o : Oper} {b : Nat} {v : Value} {m : Mem} (hc : clsD E call ops n N0 M0 (S i) o b = some (.eff v m)) : effOK E n N0 (S i) b m = true := by
  unfold clsD at hc
  split at hc
  · cases hc
  · cases hc
  · split at hc
    · split at hc <;> cases hc
    · split at hc
      · split at hc <;> cases hc
      · split at hc
        · rename_i h; cases hc; exact h
        · cases hc
      · split at hc
        · split at hc
          · rename_i h; cases hc; exact h
          · cases hc
        · cases hc
      · cases hc
theorem effOK_spec {S : DS} {b : Nat} {m : Mem} (h : effOK E n N0 S b m = true) : (∀ x ∈ S.effs, b.testBit x.1 = true) ∧ (∀ j, j < n → (S.mask ||| b).testBit j = true ∨ notLive m.t (N0 + j) = true) ∧ ∀ x ∈ S.reads, b.testBit x.1 = true ∨ readsAs E x.2.1 x.2.2.1 x.2.2.2 m = true := by
  unfold effOK at h
  cases h1 : allBits b S.effs with
  | false => rw [h1] at h; cases h
  | true =>
    rw [h1] at h
    cases h2 : freshIds N0 (S.mask ||| b) m.t n with
    | false => rw [h2] at h; cases h
    | true =>
      rw [h2] at h
      exact ⟨allBits_spec h1, freshIds_spec h2, checkReads_spec h⟩
structure Ctx (E : Env) (call : CallF) (ops : Array Oper) (B : List Nat) (n N N0 : Nat) (M0 : Mem) (t0 : T Value) (S : Nat → DS) (c : Nat → Cl) : Prop where
  run : RunOK E call ops B n N N0 M0 t0 S c
  stt : Stat ops B n
  M0n : M0.n = N0 + n
  M0f : ∀ j, j < n → notLive M0.t (N0 + j) = true
theorem Ctx.lt (X : Ctx E call ops B n N N0 M0 t0 S c) {e : Nat} (he : e < n) : ∃ o, ops.toList[e]? = some o := ⟨_, List.getElem?_eq_getElem (by rw [X.stt.len]; exact he)⟩
theorem isEff_iff {c : Cl} : c.isEff = true ↔ ∃ v m, c = .eff v m := by cases c <;> simp [Cl.isEff]
theorem isAlloc_iff {c : Cl} : c.isAlloc = true ↔ ∃ o k, c = .alloc o k := by cases c <;> simp [Cl.isAlloc]
theorem Ctx.effs (X : Ctx E call ops B n N N0 M0 t0 S c) {e k : Nat} (hk : k < n) (hek : e < k) (h1 : (c e).isEff = true) (h2 : (c k).isEff = true) : (B.getD k 0).testBit e = true := by
  obtain ⟨o, ho⟩ := X.lt hk
  obtain ⟨v, m, hc⟩ := isEff_iff.1 h2
  obtain ⟨v', m', hc'⟩ := isEff_iff.1 h1
  have h := X.run.cls k o ho
  rw [hc] at h
  have := (effOK_spec (effOK_of h)).1 (e, m') (((recs X.run k (by rw [X.stt.len]; omega)).effs e m').2 ⟨hek, v', hc'⟩)
  exact this
theorem Ctx.back (X : Ctx E call ops B n N N0 M0 t0 S c) {k j : Nat} (h : (B.getD k 0).testBit j = true) : j ≤ k := by
  have := X.stt.closed (D := fun x => decide (x ≤ k)) (fun i o ho hi e he hb => by
    have h1 := X.stt.back i o ho e he hb
    simp only [decide_eq_true_eq] at hi ⊢
    omega) k j (by simp) h
  simpa using this
theorem chain_same {D D' : Nat → Bool} : ∀ k, (∀ e, e < k → (c e).isEff = true → D e = D' e) → chainOf c M0 D k = chainOf c M0 D' k := by
  intro k
  induction k with
  | zero => intro _; rfl
  | succ k ih =>
    intro h
    have ih' := ih (fun e he => h e (by omega))
    simp only [chainOf]
    cases hc : c k with
    | eff v m =>
      have := h k (by omega) (by rw [hc]; rfl)
      rw [this]
      cases D' k
      · exact ih'
      · rfl
    | _ => cases D k <;> cases D' k <;> exact ih'
theorem chain_cut {D : Nat → Bool} {i : Nat} : ∀ k, i ≤ k → (∀ e, i ≤ e → e < k → (c e).isEff = true → D e = false) → chainOf c M0 D k = chainOf c M0 D i := by
  intro k
  induction k with
  | zero => intro h _; obtain rfl : i = 0 := by omega
            rfl
  | succ k ih =>
    intro h h2
    rcases Nat.lt_or_ge k i with h3 | h3
    · obtain rfl : i = k + 1 := by omega
      rfl
    · rw [← ih h3 (fun e he hek => h2 e he (by omega))]
      simp only [chainOf]
      cases hc : c k with
      | eff v m => rw [h2 k h3 (by omega) (by rw [hc]; rfl)]
      | _ => cases D k <;> rfl
theorem chain_cases {D : Nat → Bool} : ∀ k, ((∀ e, e < k → D e = true → (c e).isEff = false) ∧ chainOf c M0 D k = M0) ∨ ∃ e v m, e < k ∧ D e = true ∧ c e = .eff v m ∧ (∀ e', e' < k → e < e' → D e' = true → (c e').isEff = false) ∧ chainOf c M0 D k = m := by
  intro k
  induction k with
  | zero => exact .inl ⟨fun e he => by omega, rfl⟩
  | succ k ih =>
    by_cases h : D k = true ∧ (c k).isEff = true
    · obtain ⟨v, m, hc⟩ := isEff_iff.1 h.2
      exact .inr ⟨k, v, m, by omega, h.1, hc, fun e' he hk => by omega, by simp only [chainOf, h.1, hc]⟩
    · have hch : chainOf c M0 D (k + 1) = chainOf c M0 D k := by
        simp only [chainOf]
        cases hc : c k with
        | eff v m =>
          cases hd : D k with
          | false => rfl
          | true => exact absurd ⟨hd, by rw [hc]; rfl⟩ h
        | _ => cases D k <;> rfl
      have hk : D k = true → (c k).isEff = false := fun hd => by
        cases he : (c k).isEff with
        | false => rfl
        | true => exact absurd ⟨hd, he⟩ h
      rcases ih with ⟨h1, h2⟩ | ⟨e, v, m, h1, h2, h3, h4, h5⟩
      · refine .inl ⟨fun e he hd => ?_, by rw [hch, h2]⟩
        rcases Nat.lt_or_ge e k with h6 | h6
        · exact h1 e h6 hd
        · obtain rfl : e = k := by omega
          exact hk hd
      · refine .inr ⟨e, v, m, by omega, h2, h3, fun e' he hee hd => ?_, by rw [hch, h5]⟩
        rcases Nat.lt_or_ge e' k with h6 | h6
        · exact h4 e' h6 hee hd
        · obtain rfl : e' = k := by omega
          exact hk hd
theorem Ctx.chainFresh (X : Ctx E call ops B n N N0 M0 t0 S c) {D : Nat → Bool} (hD : Down ops D) {j : Nat} (hj : j < n) : Mg c B n D j ∨ notLive (chainOf c M0 D n).t (N0 + j) = true := by
  rcases chain_cases (c := c) (M0 := M0) (D := D) n with ⟨_, h2⟩ | ⟨e, v, m, h1, h2, h3, _, h5⟩
  · rw [h2]; exact .inr (X.M0f j hj)
  · rw [h5]
    obtain ⟨o, ho⟩ := X.lt h1
    have hcl := X.run.cls e o ho
    rw [h3] at hcl
    rcases (effOK_spec (effOK_of hcl)).2.1 j hj with h6 | h6
    · rw [Nat.testBit_or, Bool.or_eq_true] at h6
      rcases h6 with h6 | h6
      · obtain ⟨e', he', hef, hb⟩ := ((recs X.run e (by rw [X.stt.len]; omega)).mask j).1 h6
        have hDe : D e' = true := X.stt.closed hD e e' h2 (X.effs h1 he' hef (by rw [h3]; rfl))
        exact .inl ⟨e', by omega, hDe, hef, hb⟩
      · exact .inl ⟨e, h1, h2, by rw [h3]; rfl, h6⟩
    · exact .inr h6
theorem PM_hit {D : Nat → Bool} {j : Nat} {ob : AObj} {mk : Mk} (hc : c j = .alloc ob mk) (hd : D j = true) (hm : ¬ Mg c B n D j) : ∀ k, j < k → (PM c B n N0 M0 D k).get (N0 + j) = some ob := by
  intro k
  induction k with
  | zero => intro h; omega
  | succ k ih =>
    intro h
    rcases Nat.lt_or_ge j k with h1 | h1
    · have := ih h1
      simp only [PM]
      split
      · split
        · rw [T.get_set_ne _ _ (by omega)]; exact this
        · exact this
      · exact this
    · obtain rfl : j = k := by omega
      simp only [PM, hc]
      rw [if_pos ⟨hd, hm⟩, T.get_set_same]
theorem PM_inv {D : Nat → Bool} {id : Nat} {o : AObj} : ∀ k, (PM c B n N0 M0 D k).get id = some o → (∃ j mk, j < k ∧ id = N0 + j ∧ c j = .alloc o mk ∧ D j = true ∧ ¬ Mg c B n D j) ∨
    ((chainOf c M0 D n).t.get id = some o ∧ ∀ j, j < k → id = N0 + j → ¬ ((c j).isAlloc = true ∧ D j = true ∧ ¬ Mg c B n D j)) := by
  intro k
  induction k with
  | zero => intro h; exact .inr ⟨h, fun j hj => by omega⟩
  | succ k ih =>
    intro h
    simp only [PM] at h
    have more : (PM c B n N0 M0 D k).get id = some o → ¬ (id = N0 + k ∧ (c k).isAlloc = true ∧ D k = true ∧ ¬ Mg c B n D k) → (∃ j mk, j < k + 1 ∧ id = N0 + j ∧ c j = .alloc o mk ∧ D j = true ∧ ¬ Mg c B n D j) ∨
        ((chainOf c M0 D n).t.get id = some o ∧ ∀ j, j < k + 1 → id = N0 + j → ¬ ((c j).isAlloc = true ∧ D j = true ∧ ¬ Mg c B n D j)) := by
      intro h1 h2
      rcases ih h1 with ⟨j, mk, h3, h4⟩ | ⟨h3, h4⟩
      · exact .inl ⟨j, mk, by omega, h4⟩
      · refine .inr ⟨h3, fun j hj he hh => ?_⟩
        rcases Nat.lt_or_ge j k with h5 | h5
        · exact h4 j h5 he hh
        · obtain rfl : j = k := by omega
          exact h2 ⟨he, hh⟩
    split at h
    · rename_i ob mk hc
      split at h
      · rename_i hd
        by_cases e : N0 + k = id
        · subst e
          rw [T.get_set_same] at h; cases h
          exact .inl ⟨k, mk, by omega, rfl, hc, hd.1, hd.2⟩
        · rw [T.get_set_ne _ _ e] at h
          exact more h (fun h2 => e h2.1.symm)
      · rename_i hd
        exact more h (fun h2 => hd ⟨h2.2.2.1, h2.2.2.2⟩)
    · rename_i hna
      refine more h (fun h2 => ?_)
      obtain ⟨ob, mk, hc⟩ := isAlloc_iff.1 h2.2.1
      exact hna ob mk hc
theorem PM_miss {D : Nat → Bool} {id : Nat} : ∀ k, (∀ j, j < k → id = N0 + j → ¬ ((c j).isAlloc = true ∧ D j = true ∧ ¬ Mg c B n D j)) → (PM c B n N0 M0 D k).get id = (chainOf c M0 D n).t.get id := by
  intro k
  induction k with
  | zero => intro _; rfl
  | succ k ih =>
    intro h
    have ih' := ih (fun j hj => h j (by omega))
    simp only [PM]
    split
    · rename_i ob mk hc
      split
      · rename_i hd
        rw [T.get_set_ne _ _ (fun e => h k (by omega) e.symm ⟨by rw [hc]; rfl, hd.1, hd.2⟩)]
        exact ih'
      · exact ih'
    · exact ih'
theorem addAllocs_inv {b : Nat} {id : Nat} {o : AObj} {t : T AObj} : ∀ {l : List (Nat × AObj)}, (addAllocs N0 b l t).get id = some o → (∃ j, (j, o) ∈ l ∧ id = N0 + j ∧ b.testBit j = true) ∨ t.get id = some o := by
  intro l
  induction l with
  | nil => intro h; exact .inr h
  | cons x l ih =>
    intro h
    obtain ⟨j, ob⟩ := x
    simp only [addAllocs] at h
    cases hb : Nat.testBit b j with
    | true =>
      rw [hb] at h
      simp only [cond] at h
      by_cases e : N0 + j = id
      · subst e
        rw [T.get_set_same] at h; cases h
        exact .inl ⟨j, by simp, rfl, hb⟩
      · rw [T.get_set_ne _ _ e] at h
        rcases ih h with ⟨k, h1, h2⟩ | h1
        · exact .inl ⟨k, by simp [h1], h2⟩
        · exact .inr h1
    | false =>
      rw [hb] at h
      rcases ih h with ⟨k, h1, h2⟩ | h1
      · exact .inl ⟨k, by simp [h1], h2⟩
      · exact .inr h1
theorem put_vals {N : Nat} {σ : Sg} {f : Nat → Value} {a : Act} (hsz : a.tmps.size = N) (h : ∀ τ, VR σ (f τ) (a.tmps.getD τ undef)) {v v' : Value} (hv : VR σ v v') (d : Option Tmp) : ∀ τ, VR σ (if d = some τ ∧ τ < N then v else f τ) ((a.put d v').tmps.getD τ undef) := by
  intro τ
  cases d with
  | none => simpa [Act.put] using h τ
  | some d =>
    simp only [Act.put, Option.some.injEq]
    by_cases e : d = τ
    · subst e
      by_cases hN : d < N
      · rw [if_pos ⟨rfl, hN⟩]
        have : d < a.tmps.size := by rw [hsz]; exact hN
        simp [this, hv]
      · rw [if_neg (fun h => hN h.2)]
        have : a.tmps.setIfInBounds d v' = a.tmps := by
          apply Array.ext_getElem?
          intro q
          rw [Array.getElem?_setIfInBounds]
          by_cases e : d = q
          · subst e; rw [if_pos rfl, if_neg (by rw [hsz]; exact hN), Array.getElem?_eq_none (by rw [hsz]; exact Nat.not_lt.1 hN)]
          · rw [if_neg e]
        rw [this]; exact h d
    · rw [if_neg (fun h => e h.1)]
      have : (a.tmps.setIfInBounds d v').getD τ undef = a.tmps.getD τ undef := by
        simp [e]
      rw [this]; exact h τ
theorem put_defers (a : Act) (d : Option Tmp) (v : Value) : (a.put d v).defers = a.defers := by cases d <;> rfl
theorem put_size (a : Act) (d : Option Tmp) (v : Value) : (a.put d v).tmps.size = a.tmps.size := by cases d <;> simp [Act.put]
structure Inv (E : Env) (w0 : World) (ops : Array Oper) (B : List Nat) (n N N0 : Nat) (M0 : Mem) (t0 : T Value) (c : Nat → Cl) (σ0 : Sg) (m0 : Mem) (wst : World) (ds : List Deferred) (D : Nat → Bool) (σ : Sg) (a : Act) (w : World) : Prop where
  size : a.tmps.size = N
  tr : ∀ τ, VR σ (W c ops N N0 t0 D n τ) (a.tmps.getD τ undef)
  mem : MR E w0 σ ⟨(chainOf c M0 D n).n, PM c B n N0 M0 D n⟩ w
  num : N0 + n ≤ (chainOf c M0 D n).n
  fresh : ∀ i, i < n → ¬ (D i = true ∧ (c i).isAlloc = true) → σ (N0 + i) = none
  fg : FG σ0 m0 wst σ ⟨(chainOf c M0 D n).n, PM c B n N0 M0 D n⟩ w
  defers : a.defers = ds
variable {σ0 : Sg} {m0 : Mem} {wst : World} {ds : List Deferred}
theorem Mg_add {D : Nat → Bool} {i j : Nat} (hc : (c i).isEff = false) : Mg c B n (addD D i) j ↔ Mg c B n D j := by
  constructor
  · rintro ⟨e, h1, h2, h3, h4⟩
    rcases addD_iff.1 h2 with h5 | rfl
    · exact ⟨e, h1, h5, h3, h4⟩
    · rw [hc] at h3; cases h3
  · rintro ⟨e, h1, h2, h3⟩; exact ⟨e, h1, addD_iff.2 (.inl h2), h3⟩
theorem chain_add {D : Nat → Bool} {i : Nat} (hc : (c i).isEff = false) (k : Nat) : chainOf c M0 (addD D i) k = chainOf c M0 D k :=
  chain_same k (fun e _ he => addD_ne (fun h => by subst h; rw [hc] at he; cases he))
theorem PM_add {D : Nat → Bool} {i : Nat} (hc : (c i).isEff = false) (ha : (c i).isAlloc = false) : ∀ k, PM c B n N0 M0 (addD D i) k = PM c B n N0 M0 D k := by
  intro k
  induction k with
  | zero => simp only [PM]; rw [chain_add hc]
  | succ k ih =>
    simp only [PM]
    rw [ih]
    split
    · rename_i ob mk hck
      have hik : i ≠ k := fun e => by subst e; rw [hck] at ha; cases ha
      rw [addD_ne hik]
      have : Mg c B n (addD D i) k ↔ Mg c B n D k := Mg_add hc
      by_cases h : D k = true ∧ ¬ Mg c B n D k
      · rw [if_pos h, if_pos ⟨h.1, fun h2 => h.2 (this.1 h2)⟩]
      · rw [if_neg h, if_neg (fun h2 => h ⟨h2.1, fun h3 => h2.2 (this.2 h3)⟩)]
    · rfl
theorem Inv.same (X : Ctx E call ops B n N N0 M0 t0 S c) {D : Nat → Bool} (hD : Down ops D) {i : Nat} {o : Oper} (r : Ready ops B D i o) {σ : Sg} {a : Act} {w : World} (I : Inv E w0 ops B n N N0 M0 t0 c σ0 m0 wst ds D σ a w)
    (hc : (c i).isEff = false) (ha : (c i).isAlloc = false) {v' : Value} (hv : VR σ ((c i).val N0 i) v') : Inv E w0 ops B n N N0 M0 t0 c σ0 m0 wst ds (addD D i) σ (a.put o.dst v') w := by
  have e1 := chain_add (M0 := M0) (D := D) hc n
  have e2 := PM_add (B := B) (n := n) (N0 := N0) (M0 := M0) (D := D) hc ha n
  refine ⟨by rw [put_size]; exact I.size, fun τ => ?_, by rw [e1, e2]; exact I.mem, by rw [e1]; exact I.num, fun j hj h => I.fresh j hj (fun h2 => h ⟨addD_iff.2 (.inl h2.1), h2.2⟩), by rw [e1, e2]; exact I.fg, by rw [put_defers]; exact I.defers⟩
  rw [W_add X.stt hD r]
  exact put_vals I.size I.tr hv o.dst τ
end
end Go.AS
set_option linter.unusedSectionVars false
namespace Go.AS
open Go.RowKit
variable [Rho]
variable {E : Env} {P : Program} {w0 : World}
section
variable {call : CallF} {ops : Array Oper} {B : List Nat} {n N N0 : Nat} {M0 : Mem} {t0 : T Value} {S : Nat → DS} {c : Nat → Cl} {σ0 : Sg} {m0 : Mem} {wst : World} {ds : List Deferred}
theorem valO_new {v : Option Value} {ob : AObj} {mk : Mk} (h : valO v = [.new ob mk]) : False := by cases v <;> cases h
theorem new_live {ρ : Operand → Value} {o : Oper} {m : Mem} {ob : AObj} {mk : Mk} (hf : memFree o.op = true) (h : evOp E ρ o m = [.new ob mk]) : ob.live = true := by
  have h : evOp0 E ρ o m = [.new ob mk] := by
    unfold evOp at h
    split at h
    · exact h
    · split at h
      · cases h
      · exact h
  unfold evOp0 at h
  cases hop : o.op <;> rw [hop] at h hf <;> first
    | (cases hf; done)
    | (exact (valO_new h).elim)
    | skip
  all_goals simp only at h
  case move => cases h
  case assign => cases h
  case pick => split at h <;> cases h
  case alloc => split at h <;> cases h; rfl
  case box => split at h <;> cases h; rfl
  case buildSlice t len parts =>
    cases hb : buildSliceA E t len (parts.toList.map fun p => (p.1, ρ p.2)) with
    | none => rw [hb] at h; cases h
    | some out =>
      rw [hb] at h
      simp only [ofO, List.cons.injEq, and_true] at h
      subst h
      unfold buildSliceA at hb
      split at hb
      · split at hb
        · split at hb
          · cases hb; rfl
          · cases hb
        · cases hb
      · cases hb
  case nilCheck =>
    split at h
    · cases h
    · cases h
    · split at h
      · split at h <;> cases h
      · cases h
    · cases h
    · cases h
    · cases h
  case unOp =>
    split at h <;> first | (cases h; done) | exact (valO_new h).elim
  case makeInterface =>
    split at h
    · split at h <;> cases h
    · cases h
  case makeFunc => cases h
  case makeMap t r => cases r <;> cases h; rfl
  case makeSlice t l c =>
    cases hb : makeSliceA E t (ρ l) (ρ c) with
    | none => rw [hb] at h; cases h
    | some out =>
      rw [hb] at h
      simp only [ofO, List.cons.injEq, and_true] at h
      subst h
      unfold makeSliceA at hb
      split at hb
      · split at hb
        · cases hb; rfl
        · cases hb
      · cases hb
  case extract =>
    split at h
    · split at h <;> cases h
    · cases h
  case call c =>
    simp only [memFree] at hf
    unfold callA at h
    split at hf
    · rename_i hc
      rw [hc] at h
      simp only at h
      split at h <;> first | (cases h; done) | exact (valO_new h).elim
    · rename_i hc
      rw [hc] at h
      simp only at h
      split at h <;> first | (cases h; done) | exact (valO_new h).elim
    · cases hf
theorem cls_alloc {S : DS} {o : Oper} {b : Nat} {ob : AObj} {mk : Mk} (h : clsD E call ops n N0 M0 S o b = some (.alloc ob mk)) : wanted ops o S.t = some true ∧ memFree o.op = true ∧ evOp E (evalT S.t) o M0 = [.new ob mk] := by
  unfold clsD at h
  split at h
  · cases h
  · cases h
  · rename_i hw
    split at h
    · rename_i hf
      split at h
      · cases h
      · rename_i he; cases h; exact ⟨hw, hf, he⟩
      · cases h
    · split at h
      · split at h <;> cases h
      · split at h <;> cases h
      · split at h
        · split at h <;> cases h
        · cases h
      · cases h
theorem alloc_live {S : DS} {o : Oper} {b : Nat} {ob : AObj} {mk : Mk} (h : clsD E call ops n N0 M0 S o b = some (.alloc ob mk)) : ob.live = true := new_live (cls_alloc h).2.1 (cls_alloc h).2.2
theorem Inv.alloc (X : Ctx E call ops B n N N0 M0 t0 S c) {D : Nat → Bool} (hD : Down ops D) {i : Nat} {o : Oper} (r : Ready ops B D i o) {σ : Sg} {a : Act} {w : World} (I : Inv E w0 ops B n N N0 M0 t0 c σ0 m0 wst ds D σ a w)
    (hm0 : m0.n = N0) {ob : AObj} {mk : Mk} (hc : c i = .alloc ob mk) {v' : Value} {obj : Obj} {x : Inf} (hx : x.b = w.heap.size) (hor : OR E σ x ob obj) (hmk : ∀ (σ' : Sg) id, σ' id = some x → VR σ' (mk.val id) v') :
    ∃ σ', Inv E w0 ops B n N N0 M0 t0 c σ0 m0 wst ds (addD D i) σ' (a.put o.dst v') (w.alloc obj) := by
  have hi : i < n := by rw [← X.stt.len]; exact getElem?_lt r.op
  have hce : (c i).isEff = false := by rw [hc]; rfl
  have hid : σ (N0 + i) = none := I.fresh i hi (fun h => by rw [r.out] at h; cases h.1)
  have hnum := I.num
  obtain ⟨hm, _⟩ := I.mem.new (id := N0 + i) hid (n' := (chainOf c M0 D n).n) (Nat.le_refl _) (by omega) hx hor
  have hext : Ext σ (fun j => if j = N0 + i then some x else σ j) := fun j y hy => by
    have : j ≠ N0 + i := fun e => by rw [e, hid] at hy; cases hy
    simp [this, hy]
  have e1 := chain_add (M0 := M0) (D := D) hce n
  have hMgi : ¬ Mg c B n (addD D i) i := fun h => by
    obtain ⟨e, h1, h2, h3, h4⟩ := (Mg_add hce).1 h
    have := X.stt.closed hD e i h2 h4
    rw [r.out] at this; cases this
  have hsub : ∀ id q, (PM c B n N0 M0 (addD D i) n).get id = some q → q.live = true → ((PM c B n N0 M0 D n).set (N0 + i) ob).get id = some q := by
    intro id q hq _
    rcases PM_inv n hq with ⟨j, mk', h1, rfl, h3, h4, h5⟩ | ⟨h1, h2⟩
    · by_cases e : i = j
      · subst e; rw [hc] at h3; cases h3; rw [T.get_set_same]
      · rw [T.get_set_ne _ _ (by omega)]
        rw [addD_ne e] at h4
        exact PM_hit h3 h4 (fun h => h5 ((Mg_add hce).2 h)) n h1
    · have hne : N0 + i ≠ id := fun e => h2 i hi e.symm ⟨by rw [hc]; rfl, addD_iff.2 (.inr rfl), hMgi⟩
      rw [T.get_set_ne _ _ hne, PM_miss n (fun j hj he hh => h2 j hj he ⟨hh.1, addD_iff.2 (.inl hh.2.1), fun h => hh.2.2 ((Mg_add hce).1 h)⟩), ← e1]
      exact h1
  refine ⟨fun j => if j = N0 + i then some x else σ j, ?_⟩
  have hmem : MR E w0 (fun j => if j = N0 + i then some x else σ j) ⟨(chainOf c M0 (addD D i) n).n, PM c B n N0 M0 (addD D i) n⟩ (w.alloc obj) := hm.sub (by rw [e1]) hsub
  refine ⟨by rw [put_size]; exact I.size, fun τ => ?_, hmem, by rw [e1]; exact I.num, fun j hj h => ?_, ?_, by rw [put_defers]; exact I.defers⟩
  · rw [W_add X.stt hD r]
    refine put_vals (f := fun τ => W c ops N N0 t0 D n τ) I.size (fun τ => (I.tr τ).mono hext) (v := (c i).val N0 i) ?_ o.dst τ
    rw [hc]
    exact hmk _ _ (if_pos rfl)
  · have hji : j ≠ i := fun e => h ⟨by rw [e]; exact addD_iff.2 (.inr rfl), by rw [e, hc]; rfl⟩
    have : N0 + j ≠ N0 + i := by omega
    simp only [this, if_false]
    exact I.fresh j hj (fun h2 => h ⟨addD_iff.2 (.inl h2.1), h2.2⟩)
  · refine ⟨I.fg.ext.trans hext, Nat.le_trans I.fg.size (by simp), fun b hb hl => ?_, fun b hb => ?_, by rw [e1]; exact I.fg.n, fun j hj => ?_⟩
    · rw [Below.heap_alloc w obj b (Nat.lt_of_lt_of_le hb I.fg.size)]; exact I.fg.frame b hb hl
    · obtain ⟨id, q, y, h1, h2, h3, h4⟩ := hb
      have h5 := hsub id q h1 h2
      by_cases e : N0 + i = id
      · subst e
        simp only [if_true, Option.some.injEq] at h3
        subst h3
        exact .inr (by have := I.fg.size; omega)
      · rw [T.get_set_ne _ _ e] at h5
        have e' : id ≠ N0 + i := fun h => e h.symm
        simp only [e', if_false] at h3
        exact I.fg.grow b ⟨id, q, y, h5, h2, h3, h4⟩
    · have : j ≠ N0 + i := by omega
      simp only [this, if_false]
      exact I.fg.old j hj
theorem Inv.eff (X : Ctx E call ops B n N N0 M0 t0 S c) {D : Nat → Bool} (hD : Down ops D) {i : Nat} {o : Oper} (r : Ready ops B D i o) {σ : Sg} {a : Act} {w : World} (I : Inv E w0 ops B n N N0 M0 t0 c σ0 m0 wst ds D σ a w)
    (hm0 : m0.n = N0) {v : Value} {m' : Mem} (hc : c i = .eff v m') :
    MR E w0 σ ⟨(S i).chain.n, addAllocs N0 (B.getD i 0) (S i).allocs (S i).chain.t⟩ w ∧ ∀ {σ' : Sg} {v' : Value} {w' : World}, FG σ ⟨(S i).chain.n, addAllocs N0 (B.getD i 0) (S i).allocs (S i).chain.t⟩ w σ' m' w' → MR E w0 σ' m' w' → VR σ' v v' →
      Inv E w0 ops B n N N0 M0 t0 c σ0 m0 wst ds (addD D i) σ' (a.put o.dst v') w' := by
  have hi : i < n := by rw [← X.stt.len]; exact getElem?_lt r.op
  have hce : (c i).isEff = true := by rw [hc]; rfl
  have hcl := X.run.cls i o r.op
  rw [hc] at hcl
  obtain ⟨hbits, hfr, _⟩ := effOK_spec (effOK_of hcl)
  have rc := recs X.run i (by rw [X.stt.len]; omega)
  have hin : ∀ e, e < n → (c e).isEff = true → (D e = true ↔ e < i) := by
    intro e he hef
    constructor
    · intro hd
      rcases Nat.lt_or_ge e i with h1 | h1
      · exact h1
      · by_cases h2 : e = i
        · subst h2; rw [r.out] at hd; cases hd
        · have := X.stt.closed hD e i hd (X.effs he (by omega) hce hef)
          rw [r.out] at this; cases this
    · intro h1
      exact r.before e (X.effs hi h1 hef hce)
  have hch : chainOf c M0 D n = (S i).chain := by
    rw [rc.chain, chain_cut (i := i) n (by omega) (fun e he hen hef => by
      cases hd : D e with
      | false => rfl
      | true => have := (hin e hen hef).1 hd; omega)]
    exact chain_same i (fun e he hef => (hin e (by omega) hef).2 he)
  have hMg : ∀ j, Mg c B n D j ↔ ∃ e, e < i ∧ (c e).isEff = true ∧ (B.getD e 0).testBit j = true := by
    intro j
    constructor
    · rintro ⟨e, h1, h2, h3, h4⟩; exact ⟨e, (hin e h1 h3).1 h2, h3, h4⟩
    · rintro ⟨e, h1, h2, h3⟩; exact ⟨e, by omega, (hin e (by omega) h2).2 h1, h2, h3⟩
  have hMg' : ∀ j, Mg c B n (addD D i) j ↔ Mg c B n D j ∨ (B.getD i 0).testBit j = true := by
    intro j
    constructor
    · rintro ⟨e, h1, h2, h3, h4⟩
      rcases addD_iff.1 h2 with h5 | rfl
      · exact .inl ⟨e, h1, h5, h3, h4⟩
      · exact .inr h4
    · rintro (⟨e, h1, h2, h3⟩ | h)
      · exact ⟨e, h1, addD_iff.2 (.inl h2), h3⟩
      · exact ⟨i, hi, addD_iff.2 (.inr rfl), hce, h⟩
  have hsub : ∀ id q, (addAllocs N0 (B.getD i 0) (S i).allocs (S i).chain.t).get id = some q → q.live = true → (PM c B n N0 M0 D n).get id = some q := by
    intro id q hq hl
    rcases addAllocs_inv hq with ⟨j, h1, rfl, h3⟩ | h1
    · obtain ⟨h4, ⟨mk, h5⟩, h6⟩ := (rc.allocs j q).1 h1
      refine PM_hit h5 (r.before j h3) (fun h => ?_) n (by omega)
      obtain ⟨e, g1, g2, g3⟩ := (hMg j).1 h
      have hje := X.back g3
      have hne : j ≠ e := fun e2 => by subst e2; rw [h5] at g2; cases g2
      rw [h6 e g1 (by omega) g2] at g3; cases g3
    · rw [PM_miss n, hch]
      · exact h1
      · rintro j hj rfl ⟨g1, g2, g3⟩
        rcases X.chainFresh hD hj with h4 | h4
        · exact g3 h4
        · rw [hch] at h4
          rw [notLive_spec h4 q h1] at hl; cases hl
  have hme : MR E w0 σ ⟨(S i).chain.n, addAllocs N0 (B.getD i 0) (S i).allocs (S i).chain.t⟩ w := I.mem.sub (by rw [hch]) hsub
  refine ⟨hme, fun {σ' v' w'} hF hM hV => ?_⟩
  have hch' : chainOf c M0 (addD D i) n = m' := by
    rw [chain_cut (i := i + 1) n (by omega) (fun e he hen hef => by
      rw [addD_ne (by omega)]
      cases hd : D e with
      | false => rfl
      | true => have := (hin e hen hef).1 hd; omega)]
    simp only [chainOf, addD_iff.2 (.inr rfl), hc]
  have hmn : (S i).chain.n ≤ m'.n := hF.n
  have hnum := I.num
  rw [hch] at hnum
  have pend : ∀ k ob mk, k < n → c k = .alloc ob mk → addD D i k = true → ¬ Mg c B n (addD D i) k → ∃ x ob', σ (N0 + k) = some x ∧ w0.heap.size ≤ x.b ∧ w.heap[x.b]? = some ob' ∧ OR E σ x ob ob' ∧ (PM c B n N0 M0 D n).get (N0 + k) = some ob ∧ ob.live = true ∧ ¬ LiveB σ ⟨(S i).chain.n, addAllocs N0 (B.getD i 0) (S i).allocs (S i).chain.t⟩ x.b := by
    intro k ob mk hk hck hdk hmk
    have hki : i ≠ k := fun e => by subst e; rw [hck] at hc; cases hc
    rw [addD_ne hki] at hdk
    have hmk1 : ¬ Mg c B n D k := fun h => hmk ((hMg' k).2 (.inl h))
    have hmk2 : (B.getD i 0).testBit k = false := by
      cases hb : (B.getD i 0).testBit k with
      | false => rfl
      | true => exact absurd ((hMg' k).2 (.inr hb)) hmk
    have hget : (PM c B n N0 M0 D n).get (N0 + k) = some ob := PM_hit hck hdk hmk1 n hk
    have hlive : ob.live = true := by
      cases hl : ob with
      | dead =>
        exfalso
        have hcl2 := X.lt hk
        obtain ⟨o2, ho2⟩ := hcl2
        have h2 := X.run.cls k o2 ho2
        rw [hck, hl] at h2
        have := alloc_live h2
        cases this
      | _ => rfl
    obtain ⟨x, ob', h1, h2, h3, h4⟩ := I.mem.obj _ _ hget hlive
    refine ⟨x, ob', h1, h2, h3, h4, hget, hlive, ?_⟩
    rintro ⟨id, q, y, g1, g2, g3, g4⟩
    have g5 := hsub id q g1 g2
    have g6 : id = N0 + k := I.mem.inj id (N0 + k) q ob y x g5 g2 hget hlive g3 h1 g4
    subst g6
    rcases addAllocs_inv g1 with ⟨j, f1, f2, f3⟩ | f1
    · have : j = k := by omega
      subst this
      rw [hmk2] at f3; cases f3
    · rcases X.chainFresh hD hk with h5 | h5
      · exact hmk1 h5
      · rw [hch] at h5
        rw [notLive_spec h5 q f1] at g2; cases g2
  have hmem : ∀ k, k ≤ n → MR E w0 σ' ⟨m'.n, PM c B n N0 M0 (addD D i) k⟩ w' := by
    intro k
    induction k with
    | zero =>
      intro _
      simp only [PM, hch']
      exact hM
    | succ k ih =>
      intro hk
      have ih' := ih (by omega)
      simp only [PM]
      split
      · rename_i ob mk hck
        split
        · rename_i hd
          obtain ⟨x, ob', h1, h2, h3, h4, h5, h6, h7⟩ := pend k ob mk (by omega) hck hd.1 hd.2
          have hlt : x.b < w.heap.size := (Array.getElem?_eq_some_iff.1 h3).1
          refine ih'.putBack (x := x) (hF.ext _ _ h1) h2 ?_ (by rw [hF.frame x.b hlt h7]; exact h3) (h4.mono hF.ext)
          rintro ⟨id, q, y, g1, g2, g3, g4⟩
          rcases PM_inv k g1 with ⟨j, mk', f1, rfl, f3, f4, f5⟩ | ⟨f1, _⟩
          · obtain ⟨y0, _, e1, _, _, _, e5, e6, _⟩ := pend j q mk' (by omega) f3 f4 f5
            have : y0 = y := by have := hF.ext _ _ e1; rw [g3] at this; exact (Option.some.inj this).symm
            subst this
            have := I.mem.inj _ _ _ _ _ _ e5 e6 h5 h6 e1 h1 g4
            omega
          · rw [hch'] at f1
            rcases hF.grow x.b ⟨id, q, y, f1, g2, g3, g4⟩ with f2 | f2
            · exact h7 f2
            · omega
        · exact ih'
      · exact ih'
  refine ⟨by rw [put_size]; exact I.size, fun τ => ?_, by rw [hch']; exact hmem n (Nat.le_refl _), by rw [hch']; omega, fun j hj h => ?_, ?_, by rw [put_defers]; exact I.defers⟩
  · rw [W_add X.stt hD r]
    refine put_vals (f := fun τ => W c ops N N0 t0 D n τ) I.size (fun τ => (I.tr τ).mono hF.ext) (v := (c i).val N0 i) ?_ o.dst τ
    rw [hc]; exact hV
  · rw [hF.old (N0 + j) (by show N0 + j < (S i).chain.n; omega)]
    exact I.fresh j hj (fun h2 => h ⟨addD_iff.2 (.inl h2.1), h2.2⟩)
  · rw [hch']
    refine ⟨I.fg.ext.trans hF.ext, Nat.le_trans I.fg.size hF.size, fun b hb hl => ?_, fun b hb => ?_, ?_, fun j hj => ?_⟩
    · rw [hF.frame b (Nat.lt_of_lt_of_le hb I.fg.size) (fun hl2 => by
        rcases I.fg.grow b (hl2.sub hsub) with h1 | h1
        · exact hl h1
        · omega)]
      exact I.fg.frame b hb hl
    · obtain ⟨id, q, y, h1, h2, h3, h4⟩ := hb
      rcases PM_inv n h1 with ⟨j, mk', f1, rfl, f3, f4, f5⟩ | ⟨f1, _⟩
      · obtain ⟨y0, _, e1, _, _, _, e5, e6, _⟩ := pend j q mk' f1 f3 f4 f5
        have : y0 = y := by have := hF.ext _ _ e1; rw [h3] at this; exact (Option.some.inj this).symm
        subst this
        exact I.fg.grow b ⟨_, q, y0, e5, e6, e1, h4⟩
      · rw [hch'] at f1
        rcases hF.grow b ⟨id, q, y, f1, h2, h3, h4⟩ with f2 | f2
        · exact I.fg.grow b (f2.sub hsub)
        · exact .inr (Nat.le_trans I.fg.size f2)
    · have := I.fg.n
      simp only at this
      rw [hch] at this
      show m0.n ≤ m'.n
      omega
    · rw [hF.old j (by show j < (S i).chain.n; omega)]
      exact I.fg.old j hj
end
end Go.AS
set_option linter.unusedSectionVars false
namespace Go.AS
open Go.RowKit
variable [Rho]
variable {E : Env} {P : Program} {w0 : World}
theorem wanted_at {σ : Sg} {t : T Value} {a : Act} {ops : Array Oper} {o : Oper} (h : ∀ d ∈ looks ops o, VR σ (tv t d) (a.tmps.getD d undef)) {b : Bool} (hw : wanted ops o t = some b) : Region.wanted o (yielded ops a.tmps) = b := by
  unfold wanted at hw
  unfold Region.wanted
  split at hw
  · rename_i hg
    rw [hg]; cases hw; rfl
  · rename_i j want hg
    rw [hg]
    split at hw
    · rename_i p hp
      have hp' : ops[j]? = some p := by simpa using hp
      split at hw
      · rename_i d hd
        have hv := h d (by simp [looks, hg, hp, hd])
        have hy : yielded ops a.tmps j = match a.tmps[d]? with | some (.bool b) => some b | _ => none := by
          simp [yielded, hp', hd]
          rfl
        simp only [tv] at hv
        split at hw
        · rename_i b' ht
          cases hw
          rw [ht] at hv
          have hb := hv.simple_inv rfl
          have : a.tmps[d]? = some (.bool b') := by
            rcases Nat.lt_or_ge d a.tmps.size with h1 | h1
            · simp [h1] at hb
              rw [Array.getElem?_eq_getElem h1, hb]
            · simp [Nat.not_lt.2 h1, undef] at hb
          simp only [hy, this]
          cases b' <;> cases want <;> rfl
        · rename_i vs ht
          cases hw
          rw [ht] at hv
          obtain ⟨vs', hb, _⟩ := hv.tuple_inv
          have : (match a.tmps[d]? with | some (.bool b) => some b | _ => none) = (none : Option Bool) := by
            rcases Nat.lt_or_ge d a.tmps.size with h1 | h1
            · simp [h1] at hb
              rw [Array.getElem?_eq_getElem h1, hb]
            · rw [Array.getElem?_eq_none h1]
          simp only [hy, this]
          rfl
        · cases hw
      · cases hw
    · cases hw
section
variable {call : CallF} {ops : Array Oper} {B : List Nat} {n N N0 : Nat} {M0 : Mem} {t0 : T Value} {S : Nat → DS} {c : Nat → Cl} {σ0 : Sg} {m0 : Mem} {wst : World} {ds : List Deferred}
theorem read_at (X : Ctx E call ops B n N N0 M0 t0 S c) {D : Nat → Bool} (hD : Down ops D) {i : Nat} {o : Oper} (r : Ready ops B D i o) {v : Value} (hc : c i = .read v) (hcb : checkBack E M0 o (S i).t v (B.getD i 0) (S i).effs = true) :
    evOp E (evalT (S i).t) o (chainOf c M0 D n) = [.val v] := by
  have hi : i < n := by rw [← X.stt.len]; exact getElem?_lt r.op
  have rc := recs X.run i (by rw [X.stt.len]; omega)
  obtain ⟨h1, h2⟩ := checkBack_spec rc.sorted hcb
  have hno : ∀ y ∈ (S i).effs, D y.1 = false → (B.getD i 0).testBit y.1 = false := fun y _ hd => by
    cases hb : (B.getD i 0).testBit y.1 with
    | false => rfl
    | true => rw [r.before _ hb] at hd; cases hd
  apply readsAs_spec
  rcases chain_cases (c := c) (M0 := M0) (D := D) n with ⟨g1, g2⟩ | ⟨e, v', m', g1, g2, g3, g4, g5⟩
  · rw [g2]
    refine h2 (fun y hy => hno y hy ?_)
    obtain ⟨k1, v1, k2⟩ := (rc.effs y.1 y.2).1 hy
    cases hd : D y.1 with
    | false => rfl
    | true => have := g1 y.1 (by omega) hd; rw [k2] at this; cases this
  · rw [g5]
    rcases Nat.lt_or_ge e i with h3 | h3
    · refine h1 (e, m') ((rc.effs e m').2 ⟨h3, v', g3⟩) (fun y hy hlt => hno y hy ?_)
      obtain ⟨k1, v1, k2⟩ := (rc.effs y.1 y.2).1 hy
      cases hd : D y.1 with
      | false => rfl
      | true => have := g4 y.1 (by omega) hlt hd; rw [k2] at this; cases this
    · have hne : i ≠ e := fun h => by subst h; rw [hc] at g3; cases g3
      obtain ⟨oe, hoe⟩ := X.lt g1
      have hcl := X.run.cls e oe hoe
      rw [g3] at hcl
      have rce := recs X.run e (by rw [X.stt.len]; omega)
      have hmem : (i, o, (S i).t, v) ∈ (S e).reads := (rce.reads i o _ v).2 ⟨by omega, r.op, hc, rfl⟩
      rcases (effOK_spec (effOK_of hcl)).2.2 _ hmem with h5 | h5
      · have := X.stt.closed hD e i g2 h5
        rw [r.out] at this; cases this
      · exact h5
theorem chain_sub (X : Ctx E call ops B n N N0 M0 t0 S c) {D : Nat → Bool} (hD : Down ops D) : ∀ id q, (chainOf c M0 D n).t.get id = some q → q.live = true → (PM c B n N0 M0 D n).get id = some q := by
  intro id q hq hl
  rw [PM_miss n]
  · exact hq
  · rintro j hj rfl ⟨_, _, g3⟩
    rcases X.chainFresh hD hj with h4 | h4
    · exact g3 h4
    · rw [notLive_spec h4 q hq] at hl; cases hl
theorem cls_skip {S : DS} {o : Oper} {b : Nat} (h : clsD E call ops n N0 M0 S o b = some .skip) : wanted ops o S.t = some false := by
  unfold clsD at h
  split at h
  · cases h
  · rename_i hw; exact hw
  · split at h
    · split at h <;> cases h
    · split at h
      · split at h <;> cases h
      · split at h <;> cases h
      · split at h
        · split at h <;> cases h
        · cases h
      · cases h
theorem cls_pure {S : DS} {o : Oper} {b : Nat} {v : Value} (h : clsD E call ops n N0 M0 S o b = some (.pure v)) : wanted ops o S.t = some true ∧ memFree o.op = true ∧ evOp E (evalT S.t) o M0 = [.val v] := by
  unfold clsD at h
  split at h
  · cases h
  · cases h
  · rename_i hw
    split at h
    · rename_i hf
      split at h
      · rename_i he; cases h; exact ⟨hw, hf, he⟩
      · cases h
      · cases h
    · split at h
      · split at h <;> cases h
      · split at h <;> cases h
      · split at h
        · split at h <;> cases h
        · cases h
      · cases h
theorem cls_read {S : DS} {o : Oper} {b : Nat} {v : Value} (h : clsD E call ops n N0 M0 S o b = some (.read v)) : wanted ops o S.t = some true ∧ checkBack E M0 o S.t v b S.effs = true := by
  unfold clsD at h
  split at h
  · cases h
  · cases h
  · rename_i hw
    split at h
    · split at h <;> cases h
    · split at h
      · split at h
        · rename_i hcb; cases h; exact ⟨hw, hcb⟩
        · cases h
      · split at h <;> cases h
      · split at h
        · split at h <;> cases h
        · cases h
      · cases h
theorem cls_eff {S : DS} {o : Oper} {b : Nat} {v : Value} {m : Mem} (h : clsD E call ops n N0 M0 S o b = some (.eff v m)) : wanted ops o S.t = some true ∧ (evOp E (evalT S.t) o ⟨S.chain.n, addAllocs N0 b S.allocs S.chain.t⟩ = [.eff v m] ∨
    ∃ f args, evOp E (evalT S.t) o ⟨S.chain.n, addAllocs N0 b S.allocs S.chain.t⟩ = [.enter f args] ∧ call f args ⟨S.chain.n, addAllocs N0 b S.allocs S.chain.t⟩ = [(v, m)]) := by
  unfold clsD at h
  split at h
  · cases h
  · cases h
  · rename_i hw
    split at h
    · split at h <;> cases h
    · split at h
      · split at h <;> cases h
      · rename_i he
        split at h
        · cases h; exact ⟨hw, .inl he⟩
        · cases h
      · rename_i f args he
        split at h
        · rename_i hcall
          split at h
          · cases h; exact ⟨hw, .inr ⟨f, args, he, hcall⟩⟩
          · cases h
        · cases h
      · cases h
theorem step_draw (hE : EOK E P) (hcall : CallOK E P w0 call) (X : Ctx E call ops B n N N0 M0 t0 S c) {D : Nat → Bool} (hD : Down ops D) {i : Nat} {o : Oper} (r : Ready ops B D i o) {σ : Sg} {a : Act} {w : World} (I : Inv E w0 ops B n N N0 M0 t0 c σ0 m0 wst ds D σ a w)
    (hm0 : m0.n = N0) {rr : Option Nat} {fl : Nat} {Q : Exit → Act → World → Prop} {K : Act → World → Prop} (hK : ∀ σ' a' w', Inv E w0 ops B n N N0 M0 t0 c σ0 m0 wst ds (addD D i) σ' a' w' → K a' w') : wpOpIn (WF rr) fl P ops Q i K a w := by
  have hcl := X.run.cls i o r.op
  have hl : ∀ d ∈ looks ops o, VR σ (tv (S i).t d) (a.tmps.getD d undef) := fun d hd => by
    rw [← W_looks X.stt hD r X.run hd]; exact I.tr d
  have hρ : ∀ x ∈ o.op.operands, VR σ (evalT (S i).t x) (a.eval x) := by
    intro x hx
    cases x with
    | tmp d => exact hl d (by simp only [looks, List.mem_append]; exact .inl (List.mem_filterMap.2 ⟨.tmp d, Array.mem_toList_iff.2 hx, rfl⟩))
    | const v => exact cst_sound σ v
    | global g => exact .any _
    | func f => exact .func rfl (fun i hi => by simp at hi) rfl (fun i hi => by simp at hi)
  have ho : ops[i]? = some o := by simpa using r.op
  unfold wpOpIn
  simp only [ho]
  have goVal : ∀ {m : Mem} {v : Value}, MR E w0 σ m w → evOp E (evalT (S i).t) o m = [.val v] → wanted ops o (S i).t = some true → (c i).val N0 i = v → (c i).isEff = false → (c i).isAlloc = false →
      (if Region.wanted o (yielded ops a.tmps) = true then o.wpIn (WF rr) fl P a w K Q else (∀ f, o.about P w a.eval = some f → (WF rr).fn f) ∧ K (a.put o.dst undef) w) := by
    intro m v hm he hw hv h1 h2
    rw [if_pos (wanted_at hl hw)]
    obtain ⟨out, hmem, hout⟩ := evOp_at (P := P) hE hm o hρ (by rw [he]; simp)
    rw [he, List.mem_singleton] at hmem
    subst hmem
    refine oper_wp hcall (not_defer (by rw [he]; simp)) hm hout ?_ (fun _ _ h => by cases h) (fun _ _ h => by cases h) (fun _ _ h => by cases h)
    rintro u hu v' g3
    cases hu
    exact hK σ _ w (I.same X hD r h1 h2 (by rw [hv]; exact g3))
  cases hc : c i with
  | skip =>
    rw [hc] at hcl
    have hw := cls_skip hcl
    rw [if_neg (by rw [wanted_at hl hw]; decide)]
    exact ⟨fun _ _ => trivial, hK σ _ w (I.same X hD r (by rw [hc]; rfl) (by rw [hc]; rfl) (by rw [hc]; exact VR.undef σ))⟩
  | pure v =>
    rw [hc] at hcl
    obtain ⟨hw, hf, he⟩ := cls_pure hcl
    exact goVal I.mem ((evOp_memFree o _ M0 hf).trans he) hw (by rw [hc]; rfl) (by rw [hc]; rfl) (by rw [hc]; rfl)
  | read v =>
    rw [hc] at hcl
    obtain ⟨hw, hcb⟩ := cls_read hcl
    exact goVal (m := chainOf c M0 D n) (I.mem.sub rfl (chain_sub X hD)) (read_at X hD r hc hcb) hw (by rw [hc]; rfl) (by rw [hc]; rfl) (by rw [hc]; rfl)
  | alloc ob mk =>
    rw [hc] at hcl
    obtain ⟨hw, hf, he⟩ := cls_alloc hcl
    rw [if_pos (wanted_at hl hw)]
    have he' := (evOp_memFree (E := E) (ρ := evalT (S i).t) o ⟨(chainOf c M0 D n).n, PM c B n N0 M0 D n⟩ M0 hf).trans he
    obtain ⟨out, hmem, hout⟩ := evOp_at (P := P) hE I.mem o hρ (by rw [he']; simp)
    rw [he', List.mem_singleton] at hmem
    subst hmem
    refine oper_wp hcall (not_defer (by rw [he']; simp)) I.mem hout (fun _ h => by cases h) ?_ (fun _ _ h => by cases h) (fun _ _ h => by cases h)
    rintro ob' mk' hu v' obj x g2 g3 g4 g5
    cases hu
    obtain ⟨σ', I'⟩ := I.alloc X hD r hm0 hc g2 g4 g5
    exact hK σ' _ _ I'
  | eff v m' =>
    rw [hc] at hcl
    obtain ⟨hw, he⟩ := cls_eff hcl
    rw [if_pos (wanted_at hl hw)]
    obtain ⟨hm, hgo⟩ := I.eff X hD r hm0 hc
    rcases he with he | ⟨f, args, he, hca⟩
    · obtain ⟨out, hmem, hout⟩ := evOp_at (P := P) hE hm o hρ (by rw [he]; simp)
      rw [he, List.mem_singleton] at hmem
      subst hmem
      refine oper_wp hcall (not_defer (by rw [he]; simp)) hm hout (fun _ h => by cases h) (fun _ _ h => by cases h) ?_ (fun _ _ h => by cases h)
      rintro u m2 hu v' w' σ' g3 g4 g5
      cases hu
      exact hK σ' _ w' (hgo g5 g4 g3)
    · obtain ⟨out, hmem, hout⟩ := evOp_at (P := P) hE hm o hρ (by rw [he]; simp)
      rw [he, List.mem_singleton] at hmem
      subst hmem
      refine oper_wp hcall (not_defer (by rw [he]; simp)) hm hout (fun _ h => by cases h) (fun _ _ h => by cases h) (fun _ _ h => by cases h) ?_
      rintro f' args' hu
      cases hu
      refine ⟨by rw [hca]; simp, ?_⟩
      intro q hq v' w' σ' hF hV hM
      rw [hca, List.mem_singleton] at hq
      subst hq
      exact hK σ' _ w' (hgo hF hM hV)
def cntF : List Bool → Nat
  | [] => 0
  | true :: l => cntF l
  | false :: l => cntF l + 1
theorem cntF_set : ∀ {l : List Bool} {i : Nat}, l[i]? = some false → cntF (l.set i true) + 1 = cntF l := by
  intro l
  induction l with
  | nil => intro i h; simp at h
  | cons b l ih =>
    intro i h
    cases i with
    | zero => cases h; rfl
    | succ i =>
      have := ih (i := i) (by simpa using h)
      cases b
      · simp only [List.set_cons_succ, cntF]; omega
      · simp only [List.set_cons_succ, cntF]; exact this
theorem cntF_le : ∀ (l : List Bool), cntF l ≤ l.length := by
  intro l
  induction l with
  | nil => exact Nat.le_refl _
  | cons b l ih => cases b <;> simp only [cntF, List.length_cons] <;> omega
theorem any_draw (hE : EOK E P) (hcall : CallOK E P w0 call) (X : Ctx E call ops B n N N0 M0 t0 S c) (hB : B = masks ops.toList []) (hm0 : m0.n = N0) {rr : Option Nat} {fl : Nat} {Q : Exit → Act → World → Prop}
    (hQ : ∀ σ' a' w', Inv E w0 ops B n N N0 M0 t0 c σ0 m0 wst ds (fun i => decide (i < n)) σ' a' w' → Q .normal a' w') : ∀ (fuel : Nat) (listed : Array Bool) (σ : Sg) (a : Act) (w : World), listed.size = ops.size → cntF listed.toList ≤ fuel →
    Down ops (fun i => listed.getD i false) → Inv E w0 ops B n N N0 M0 t0 c σ0 m0 wst ds (fun i => listed.getD i false) σ a w → wpAnyIn (WF rr) fl P .any ops Q fuel listed a w := by
  have hsz : ops.size = n := by rw [← X.stt.len]; simp
  have done : ∀ (listed : Array Bool) (σ : Sg) (a : Act) (w : World), listed.size = ops.size → Down ops (fun i => listed.getD i false) → Inv E w0 ops B n N N0 M0 t0 c σ0 m0 wst ds (fun i => listed.getD i false) σ a w → Region.ready .any ops listed = [] → Q .normal a w := by
    intro listed σ a w hls hD I hr
    have hall : ∀ i, i < n → listed.getD i false = true := by
      intro i
      induction i using Nat.strongRecOn with
      | _ i ih =>
        intro hi
        cases hl : listed.getD i false with
        | true => rfl
        | false =>
          exfalso
          obtain ⟨o, ho⟩ := X.lt hi
          have hmem : i ∈ Region.ready .any ops listed := by
            rw [mem_ready]
            have ho' : ops[i]? = some o := by simpa using ho
            refine ⟨?_, o, ho', ?_⟩
            · have : i < listed.size := by omega
              simp [this] at hl ⊢
              exact hl
            · intro e he hb
              have := X.stt.back i o ho e (Array.mem_toList_iff.2 he) hb
              exact ih e.on this (by omega)
          rw [hr] at hmem; cases hmem
    have hfun : (fun i => listed.getD i false) = (fun i => decide (i < n)) := by
      funext i
      by_cases h : i < n
      · rw [hall i h]; simp [h]
      · have : ¬ i < listed.size := by omega
        simp [this, h]
    rw [hfun] at I
    exact hQ σ a w I
  intro fuel
  induction fuel with
  | zero =>
    intro listed σ a w hls hf hD I
    have hnone : Region.ready .any ops listed = [] := by
      cases hr : Region.ready .any ops listed with
      | nil => rfl
      | cons i l =>
        exfalso
        have hmem : i ∈ Region.ready .any ops listed := by rw [hr]; simp
        rw [mem_ready] at hmem
        obtain ⟨h1, o, h2, _⟩ := hmem
        have h3 : i < ops.size := (Array.getElem?_eq_some_iff.1 h2).1
        have h4 : i < listed.size := by omega
        have h5 : listed.toList[i]? = some false := by
          simp [h4] at h1
          simp [h4, h1]
        have := cntF_set h5
        omega
    exact ⟨hnone, done listed σ a w hls hD I hnone⟩
  | succ fuel ih =>
    intro listed σ a w hls hf hD I
    refine ⟨done listed σ a w hls hD I, fun i hi => ?_⟩
    rw [mem_ready] at hi
    obtain ⟨h1, o, h2, h3⟩ := hi
    have hi : i < ops.size := (Array.getElem?_eq_some_iff.1 h2).1
    have h4 : i < listed.size := by omega
    have h5 : listed.toList[i]? = some false := by
      simp [h4] at h1
      simp [h4, h1]
    have hout : listed.getD i false = false := by
      simp [h4] at h1
      simp [h4, h1]
    have hop : ops.toList[i]? = some o := by simpa using h2
    have r : Ready ops B (fun i => listed.getD i false) i o := by
      refine ⟨hop, hout, fun j hj => ?_⟩
      rw [hB] at hj
      have h6 := (masks_spec ops.toList []).2 i o hop
      simp only [List.length_nil, Nat.zero_add] at h6
      rw [List.getD_eq_getElem?_getD, h6, Option.getD_some] at hj
      rcases orEdges_spec hj with h7 | ⟨e, he, hb, h7⟩
      · simp at h7
      · have hon := h3 e (Array.mem_toList_iff.1 he) hb
        rcases h7 with rfl | h7
        · exact hon
        · have hlt := X.stt.back i o hop e he hb
          have h8 : ((masks ops.toList []).take i).getD e.on 0 = (masks ops.toList []).getD e.on 0 := by
            rw [List.getD_eq_getElem?_getD, List.getD_eq_getElem?_getD, List.getElem?_take, if_pos hlt]
          rw [h8] at h7
          exact masks_closed hD e.on j hon h7
    have hfun : (fun j => (listed.setIfInBounds i true).getD j false) = addD (fun j => listed.getD j false) i := by
      funext j
      by_cases e : i = j
      · subst e
        have : addD (fun j => listed.getD j false) i i = true := addD_iff.2 (.inr rfl)
        rw [this]
        simp [h4]
      · rw [addD_ne e, getD_set_ne false e]
    refine step_draw hE hcall X hD r I hm0 (fun σ' a' w' I' => ?_)
    refine ih (listed.setIfInBounds i true) σ' a' w' (by simpa using hls) ?_ ?_ ?_
    · rw [Array.toList_setIfInBounds]
      have := cntF_set h5
      omega
    · rw [hfun]
      intro k p hk hkd e he hb
      rcases addD_iff.1 hkd with h6 | rfl
      · exact addD_iff.2 (.inl (hD k p hk h6 e he hb))
      · rw [hop] at hk; cases hk
        exact addD_iff.2 (.inl (h3 e (Array.mem_toList_iff.1 he) hb))
    · rw [hfun]; exact I'
end
theorem addAll_inv {N0 : Nat} {id : Nat} {o : AObj} {t : T AObj} : ∀ {l : List (Nat × AObj)}, (addAll N0 l t).get id = some o → (∃ j, (j, o) ∈ l ∧ id = N0 + j) ∨ t.get id = some o := by
  intro l
  induction l with
  | nil => intro h; exact .inr h
  | cons x l ih =>
    intro h
    obtain ⟨j, ob⟩ := x
    simp only [addAll] at h
    by_cases e : N0 + j = id
    · subst e
      rw [T.get_set_same] at h; cases h
      exact .inl ⟨j, by simp, rfl⟩
    · rw [T.get_set_ne _ _ e] at h
      rcases ih h with ⟨k, h1, h2⟩ | h1
      · exact .inl ⟨k, by simp [h1], h2⟩
      · exact .inr h1
theorem evDraw_wp (hE : EOK E P) (hP : P.follows .mixedOrders = true) {call : CallF} (hcall : CallOK E P w0 call) {rr : Option Nat} {fl : Nat} {N id : Nat} {ops : Array Oper} {Q : Exit → Act → World → Prop} {t : T Value} {m : Mem} {σ : Sg} {a : Act} {w : World}
    (hne : evDraw E call N ops t m ≠ []) (hT : TR σ N t a) (hM : MR E w0 σ m w)
    (hQ : ∀ r ∈ evDraw E call N ops t m, ∀ σ' a' w', FG σ m w σ' r.2 w' → TR σ' N r.1 a' → MR E w0 σ' r.2 w' → a'.defers = a.defers → Q .normal a' w') : (Code.region id ops true).wpIn (WF rr) fl P Q a w := by
  refine wpIn_region_any hP ?_
  unfold evDraw at hne hQ
  split at hne
  · rename_i hed htm
    simp only [hed, htm] at hQ
    split at hne
    · rename_i Sf hrun
      rw [hrun] at hQ
      simp only at hQ
      obtain ⟨S, c, hS0, hSf, hS⟩ := runD_ok _ _ _ _ hrun
      have hstat : Stat ops (masks ops.toList []) ops.toList.length := by
        refine ⟨rfl, fun i o ho e he hb => ?_, fun {D} hD => masks_closed hD, fun k i o p hk hi hp hc => ?_⟩
        · have := edgesOK_spec hed i o ho e he hb; omega
        · have := tmpsOK_spec htm k o hk i p (by omega) hp hc
          simpa using this
      have X : Ctx E call ops (masks ops.toList []) ops.toList.length N m.n ⟨m.n + ops.toList.length, m.t⟩ t S c := by
        refine ⟨⟨hS0, fun k o ho => ?_, fun k o ho => ?_⟩, hstat, rfl, fun j hj => ?_⟩
        · have := (hS k o ho).1; simpa using this
        · have := (hS k o ho).2; simpa using this
        · cases hg : m.t.get (m.n + j) with
          | none => simp [notLive, hg]
          | some o =>
            cases hl : o.live with
            | false => cases o <;> first | (cases hl; done) | simp [notLive, hg]
            | true =>
              obtain ⟨x, _, hx, _⟩ := hM.obj _ _ hg hl
              rw [hM.fresh (m.n + j) (by omega)] at hx; cases hx
      have hch0 : ∀ k, chainOf c ⟨m.n + ops.toList.length, m.t⟩ (fun _ => false) k = ⟨m.n + ops.toList.length, m.t⟩ := by
        intro k
        induction k with
        | zero => rfl
        | succ k ih => simp only [chainOf]; exact ih
      have hPM0 : ∀ k, PM c (masks ops.toList []) ops.toList.length m.n ⟨m.n + ops.toList.length, m.t⟩ (fun _ => false) k = m.t := by
        intro k
        induction k with
        | zero => simp only [PM]; rw [hch0]
        | succ k ih =>
          simp only [PM]
          split
          · rw [if_neg (by simp)]; exact ih
          · exact ih
      have hW0 : ∀ k τ, W c ops N m.n t (fun _ => false) k τ = tv t τ := by
        intro k τ
        induction k with
        | zero => rfl
        | succ k ih => simp only [W]; rw [if_neg (by simp)]; exact ih
      have hM1 : MR E w0 σ ⟨m.n + ops.toList.length, m.t⟩ w.drew := ⟨hM.below.drew, hM.t0, hM.obj, hM.inj, fun i hi => hM.fresh i (by have : m.n + ops.toList.length ≤ i := hi; omega)⟩
      have I0 : Inv E w0 ops (masks ops.toList []) ops.toList.length N m.n ⟨m.n + ops.toList.length, m.t⟩ t c σ m w a.defers (fun i => (Array.replicate ops.size false).getD i false) σ a w.drew := by
        have hf : (fun i => (Array.replicate ops.size false).getD i false) = (fun _ => false) := by
          funext i
          by_cases h : i < ops.size
          · simp [h]
          · simp [h]
        rw [hf]
        refine ⟨hT.size, fun τ => by rw [hW0]; exact hT.val τ, by rw [hch0, hPM0]; exact hM1, by rw [hch0]; exact Nat.le_refl _, fun i hi _ => hM.fresh _ (by omega), ?_, rfl⟩
        rw [hch0, hPM0]
        exact ⟨Ext.refl σ, Nat.le_refl _, fun _ _ _ => rfl, fun b hb => .inl hb, by show m.n ≤ m.n + ops.toList.length; omega, fun _ _ => rfl⟩
      refine any_draw hE hcall X rfl rfl (fun σ' a' w' I => ?_) ops.size _ σ a w.drew (by simp) (by
        have := cntF_le (Array.replicate ops.size false).toList
        simpa using this) (fun i o ho hd => by
        by_cases h : i < ops.size
        · simp [h] at hd
        · simp [h] at hd) I0
      have rc := recs X.run ops.toList.length (Nat.le_refl _)
      subst hSf
      have hD1 : Down ops (fun i => decide (i < ops.toList.length)) := fun i o ho _ e he hb => by
        have := hstat.back i o ho e he hb
        have := getElem?_lt ho
        simp only [decide_eq_true_eq]; omega
      have hchN : chainOf c ⟨m.n + ops.toList.length, m.t⟩ (fun i => decide (i < ops.toList.length)) ops.toList.length = (S ops.toList.length).chain := by
        rw [rc.chain]
        exact chain_same _ (fun e he _ => by simp only [decide_eq_true he])
      have hsub : ∀ i q, (addAll m.n (S ops.toList.length).allocs (S ops.toList.length).chain.t).get i = some q → q.live = true → (PM c (masks ops.toList []) ops.toList.length m.n ⟨m.n + ops.toList.length, m.t⟩ (fun i => decide (i < ops.toList.length)) ops.toList.length).get i = some q := by
        intro i q hq hl
        rcases addAll_inv hq with ⟨j, h1, rfl⟩ | h1
        · obtain ⟨h2, ⟨mk, h3⟩, h4⟩ := (rc.allocs j q).1 h1
          refine PM_hit h3 (decide_eq_true h2) (fun h => ?_) _ h2
          obtain ⟨e, g1, _, g2, g3⟩ := h
          have hje := X.back g3
          have hne : j ≠ e := fun e2 => by subst e2; rw [h3] at g2; cases g2
          rw [h4 e g1 (by omega) g2] at g3; cases g3
        · exact chain_sub X hD1 i q (by rw [hchN]; exact h1) hl
      have hmem := I.mem
      have hfg := I.fg
      rw [hchN] at hmem hfg
      have hmem2 : MR E w0 σ' ⟨(S ops.toList.length).chain.n, addAll m.n (S ops.toList.length).allocs (S ops.toList.length).chain.t⟩ w' := hmem.sub rfl hsub
      refine hQ _ (List.mem_singleton.2 rfl) σ' a' w' ⟨hfg.ext, hfg.size, hfg.frame, fun b hb => hfg.grow b (hb.sub hsub), hfg.n, hfg.old⟩ ⟨I.size, fun τ => ?_⟩ hmem2 I.defers
      have h1 := I.tr τ
      have h2 : W c ops N m.n t (fun i => decide (i < ops.toList.length)) ops.toList.length τ = tv (S ops.toList.length).t τ := by
        rw [W_all X.run _ (Nat.le_refl _)]
        exact W_same _ (fun i hi _ => by simp only [decide_eq_true hi])
      rw [h2] at h1
      exact h1
    · exact absurd rfl hne
  · exact absurd rfl hne
end Go.AS
