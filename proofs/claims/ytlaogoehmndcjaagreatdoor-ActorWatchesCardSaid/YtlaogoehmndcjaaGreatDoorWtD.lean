/- What the watcher tells of itself is what its tree tells. -/
import Derived.Test.YtlaogoehmndcjaaGreatDoorWtC
import Derived.Test.YtlaogoehmndcjaaGreatDoorWtR
set_option linter.unusedVariables false
namespace Go.Proofs.YtlaogoehmndcjaaGreatDoor.Sy
open Go Go.RowKit Go.AS Go.Base Go.Pr Go.Proofs.YtlaogoehmndcjaaGreatDoor.Ba
set_option linter.unusedVariables false
def accV (a : Acc) : Value := .agg #[.int .i64 a.k, .int .i64 a.at_, .int .i64 a.n, .int .u64 a.v, .int .u64 a.w, .slice none 0 0]
def nextV (p : Pr Tld WO) : Value := match p.want with
  | some a => .tuple #[accV a, .bool true]
  | none => .tuple #[accV ⟨0, 0, 0, 0, 0, []⟩, .bool false]
def mendV (o : WO) : Value := if o.2.2 > 0 then .tuple #[.int .i64 o.2.1, .int .i64 o.2.2, .bool true] else .tuple #[.int .i64 0, .int .i64 0, .bool false]
theorem inU_want {l : LogN} {timeout : Int} {n : Nat} {s : WS} {pos : Int} {p : Pr Tld UO} {o : UO} {a : Acc} {k : Tld → Pr Tld UO} (h : p = .ask o a k) : (inU l timeout n s pos p).want = some a ∧ (inU l timeout n s pos p).obs = (s.sum + o.1, if o.2 > 0 then pos else 0, o.2) := by
  subst h
  exact ⟨rfl, rfl⟩
theorem nextV_of {p : Pr Tld WO} {a : Acc} (h : p.want = some a) : nextV p = .tuple #[accV a, .bool true] := by unfold nextV; rw [h]
theorem to_pos {l : Lg} (hl : l.ok) {pos trm part off fin un : Int} (hu : BdU l pos trm part off fin un) (hf : off < fin) : pos / l.term * l.term + fin > 0 ∧ pos - off + fin = pos / l.term * l.term + fin := by
  have hb := hl.bounds
  have h1 := quo_bd (t := l.term) (by omega) hu.p
  have h2 := rem_bd (pos := pos) (t := l.term) (by omega)
  have h3 : pos / l.term * l.term + pos % l.term = pos := by rw [Int.mul_comm]; exact Int.mul_ediv_add_emod pos l.term
  have h4 : 0 ≤ pos / l.term * l.term := Int.mul_nonneg h1.1 (by omega)
  have h5 := hu.o
  omega
theorem Rep.next {l : Lg} {timeout c now : Int} {p : Pr Tld WO} {W : World} {τ : Nat → Nat × Nat} (hTw : TabAt 0 Lib.deBruijn64tab W) {O : Nat → Prop} (h : Rep l timeout c now p W τ O) : Calls Tryz.prog 17 #[.pointer (some ⟨(τ 0).1, (τ 0).2 + 0, none⟩)] W fun e w' => e = .returned (nextV p) ∧ ∃ τ' O', τ' 0 = τ 0 ∧ Fr O O' W w' ∧ Rep l timeout c now p w' τ' O' := by
  cases h with
  | @s0 kat kv times since last least sum ix hS ho hl hb hi hk hp =>
    refine stepQ (wa_nx0 l timeout kat kv times now since last least sum ix hl hb.t hb.n hb.s hb.q hi W hTw τ hS) ho ?_ fun w' τ' hS' ho' => .s0 hS' ho' hl hb hi hk hp
    rw [hp]
    rw [subW_ask _ _ _ _ _ _ (show ix.toNat < l.subs.toNat by omega), hk.1, hk.2]
    show _ = Ending.returned (.tuple #[accV (Go.Base.load ((Lgn l).M + 48 + 8 * (ix.toNat : Int)) 8), .bool true])
    rw [show (Lgn l).M + 48 + 8 * (ix.toNat : Int) = l.base + 3 * l.term + 48 + ix * 8 by show l.base + 3 * l.term + 48 + 8 * (ix.toNat : Int) = _; omega]
    rfl
  | @s1 kat kv times since last least sum hS ho hm hp =>
    refine stepQ (wa_nx1 l timeout kat kv times now since last least sum (by have := hm; omega) W hTw τ hS) ho ?_ fun w' τ' hS' ho' => .s1 hS' ho' hm hp
    rw [hp]
    rfl
  | @s2 kat kv times since last least sum ix hS ho hl hb hi hk hp =>
    refine stepQ (wa_nx2 l timeout kat kv times now since last least sum ix hl hb.t hb.n hb.s hb.q hi W hTw τ hS) ho ?_ fun w' τ' hS' ho' => .s2 hS' ho' hl hb hi hk hp
    rw [hp]
    rw [subW_ask _ _ _ _ _ _ (show ix.toNat < l.subs.toNat by omega), hk.1, hk.2]
    show _ = Ending.returned (.tuple #[accV (Go.Base.load ((Lgn l).M + 48 + 8 * (ix.toNat : Int)) 8), .bool true])
    rw [show (Lgn l).M + 48 + 8 * (ix.toNat : Int) = l.base + 3 * l.term + 48 + ix * 8 by show l.base + 3 * l.term + 48 + 8 * (ix.toNat : Int) = _; omega]
    rfl
  | @s3 kat kv times since last least sum ukat ukv pos trm part off fin un ue hS ho hl hb hu hk hp =>
    obtain rfl := hu.u
    have hof : 0 ≤ off ∧ off ≤ 8192 := by have := rem_bd (pos := pos) (t := l.term) (by have := hl.bounds; omega); have := hu.o; have := hl.bounds; omega
    have hfi : 0 ≤ fin ∧ fin ≤ 8192 := by have := hu.f; have := hl.bounds; omega
    have hpt : 0 ≤ part ∧ part ≤ 200000 := by rw [hu.pt]; exact third_bd (by have := hl.bounds; omega) (by have := hl.bounds; omega) (quo_bd (by have := hl.bounds; omega) hu.p).1
    refine stepQ (wa_nx3 l timeout kat kv times now since last least sum ukat ukv pos trm part off fin 0 ue hl hb.t hb.n hb.s hb.q hu.p hpt hof hfi rfl W hTw τ hS) ho ?_ fun w' τ' hS' ho' => .s3 hS' ho' hl hb hu hk hp
    rw [hp]
    rw [nextV_of (inU_want (unstickT_ask (l := Lgn l) hl hu.p)).1, hk.1, hk.2]
    rw [show (Lgn l).tailAt (pos / (Lgn l).term % 3) = l.base + 3 * l.term + pos / l.term % 3 * 8 by show l.base + 3 * l.term + 8 * (pos / l.term % 3) = _; omega]
    rfl
  | @s4 kat kv times since last least sum ukat ukv pos trm part off fin un ue hS ho hl hb hu hf hk hp =>
    obtain rfl := hu.u
    have hof : 0 ≤ off ∧ off ≤ 8192 := by have := rem_bd (pos := pos) (t := l.term) (by have := hl.bounds; omega); have := hu.o; have := hl.bounds; omega
    have hfi : 0 ≤ fin ∧ fin ≤ 8192 := by have := hu.f; have := hl.bounds; omega
    have hpt : 0 ≤ part ∧ part ≤ 200000 := by rw [hu.pt]; exact third_bd (by have := hl.bounds; omega) (by have := hl.bounds; omega) (quo_bd (by have := hl.bounds; omega) hu.p).1
    refine stepQ (wa_nx4 l timeout kat kv times now since last least sum ukat ukv pos trm part off fin 0 ue hl hb.t hb.n hb.s hb.q hu.p hpt hof hfi rfl W hTw τ hS) ho ?_ fun w' τ' hS' ho' => .s4 hS' ho' hl hb hu hf hk hp
    rw [hp]
    rw [nextV_of (inU_want (lookT_ask (usOf l pos trm part off fin))).1, hk.1, hk.2]
    rfl
  | @s5 kat kv times since last least sum ukat ukv pos trm part off fin un ue nn w0 w1 w2 w3 hS ho hl hb hu hf hn hw hk hp =>
    obtain rfl := hu.u
    have hof : 0 ≤ off ∧ off ≤ 8192 := by have := rem_bd (pos := pos) (t := l.term) (by have := hl.bounds; omega); have := hu.o; have := hl.bounds; omega
    have hfi : 0 ≤ fin ∧ fin ≤ 8192 := by have := hu.f; have := hl.bounds; omega
    have hpt : 0 ≤ part ∧ part ≤ 200000 := by rw [hu.pt]; exact third_bd (by have := hl.bounds; omega) (by have := hl.bounds; omega) (quo_bd (by have := hl.bounds; omega) hu.p).1
    refine stepQ (wa_nx5 l timeout kat kv times now since last least sum ukat ukv pos trm part off fin 0 ue nn w0 w1 w2 w3 hl hb.t hb.n hb.s hb.q hu.p hpt hof hfi rfl hn W hTw τ hS) ho ?_ fun w' τ' hS' ho' => .s5 hS' ho' hl hb hu hf hn hw hk hp
    rw [hp]
    rw [nextV_of (inU_want (padT_ask (usOf l pos trm part off fin) nn)).1, hk.1, hk.2]
    rw [hw.2.1]
    rfl
  | @s6 kat kv times since last least sum ukat ukv pos trm part off fin un ue atv fnd k hS ho hl hb hu hf ha hn6 hk hp =>
    obtain rfl := hu.u
    have hof : 0 ≤ off ∧ off ≤ 8192 := by have := rem_bd (pos := pos) (t := l.term) (by have := hl.bounds; omega); have := hu.o; have := hl.bounds; omega
    have hfi : 0 ≤ fin ∧ fin ≤ 8192 := by have := hu.f; have := hl.bounds; omega
    have hpt : 0 ≤ part ∧ part ≤ 200000 := by rw [hu.pt]; exact third_bd (by have := hl.bounds; omega) (by have := hl.bounds; omega) (quo_bd (by have := hl.bounds; omega) hu.p).1
    have hatv : -32 ≤ atv ∧ atv ≤ 10000 := by omega
    have hfnd : 0 ≤ fnd ∧ fnd ≤ 10000 := by omega
    refine stepQ (wa_nx6 l timeout kat kv times now since last least sum ukat ukv pos trm part off fin 0 ue atv fnd hl hb.t hb.n hb.s hb.q hu.p hpt hof hfi rfl hatv hfnd W hTw τ hS) ho ?_ fun w' τ' hS' ho' => .s6 hS' ho' hl hb hu hf ha hn6 hk hp
    rw [hp]
    rw [nextV_of (inU_want (backT_ask (u := (usOf l pos trm part off fin)) (k := k) (f := fnd) (b := atv) (by show ¬ atv < off; omega))).1, hk.1, hk.2]
    rfl
  | @s7 kat kv times since last least sum ukat ukv pos trm part off fin un ue atv k hS ho hl hb hu hf ha hk hp =>
    obtain rfl := hu.u
    have hof : 0 ≤ off ∧ off ≤ 8192 := by have := rem_bd (pos := pos) (t := l.term) (by have := hl.bounds; omega); have := hu.o; have := hl.bounds; omega
    have hfi : 0 ≤ fin ∧ fin ≤ 8192 := by have := hu.f; have := hl.bounds; omega
    have hpt : 0 ≤ part ∧ part ≤ 200000 := by rw [hu.pt]; exact third_bd (by have := hl.bounds; omega) (by have := hl.bounds; omega) (quo_bd (by have := hl.bounds; omega) hu.p).1
    have hatv : -32 ≤ atv ∧ atv ≤ 10000 := by omega
    refine stepQ (wa_nx7 l timeout kat kv times now since last least sum ukat ukv pos trm part off fin 0 ue atv hl hb.t hb.n hb.s hb.q hu.p hpt hof hfi rfl hatv W hTw τ hS) ho ?_ fun w' τ' hS' ho' => .s7 hS' ho' hl hb hu hf ha hk hp
    rw [hp]
    rw [nextV_of (inU_want (aheadT_ask (u := (usOf l pos trm part off fin)) (k := k) (a := atv) (by show ¬ atv ≥ fin; omega))).1, hk.1, hk.2]
    rfl
  | @s8 kat kv times since last least sum ukat ukv pos trm part off fin un ue nn w0 w1 w2 w3 hS ho hl hb hu hf hn hw hk hp =>
    obtain rfl := hu.u
    have hof : 0 ≤ off ∧ off ≤ 8192 := by have := rem_bd (pos := pos) (t := l.term) (by have := hl.bounds; omega); have := hu.o; have := hl.bounds; omega
    have hfi : 0 ≤ fin ∧ fin ≤ 8192 := by have := hu.f; have := hl.bounds; omega
    have hpt : 0 ≤ part ∧ part ≤ 200000 := by rw [hu.pt]; exact third_bd (by have := hl.bounds; omega) (by have := hl.bounds; omega) (quo_bd (by have := hl.bounds; omega) hu.p).1
    refine stepQ (wa_nx8 l timeout kat kv times now since last least sum ukat ukv pos trm part off fin 0 ue nn w0 w1 w2 w3 hl hb.t hb.n hb.s hb.q hu.p hpt hof hfi rfl hn W hTw τ hS) ho ?_ fun w' τ' hS' ho' => .s8 hS' ho' hl hb hu hf hn hw hk hp
    rw [hp]
    rw [nextV_of (inU_want (show padT2 (usOf l pos trm part off fin) nn = _ from rfl)).1, hk.1, hk.2]
    rw [hw.2.2.1]
    rfl
  | @s9 kat kv times since last least sum ukat ukv pos trm part off fin un ue nn w0 w1 w2 w3 hS ho hl hb hu hf hn hw hk hp =>
    obtain rfl := hu.u
    have hof : 0 ≤ off ∧ off ≤ 8192 := by have := rem_bd (pos := pos) (t := l.term) (by have := hl.bounds; omega); have := hu.o; have := hl.bounds; omega
    have hfi : 0 ≤ fin ∧ fin ≤ 8192 := by have := hu.f; have := hl.bounds; omega
    have hpt : 0 ≤ part ∧ part ≤ 200000 := by rw [hu.pt]; exact third_bd (by have := hl.bounds; omega) (by have := hl.bounds; omega) (quo_bd (by have := hl.bounds; omega) hu.p).1
    refine stepQ (wa_nx9 l timeout kat kv times now since last least sum ukat ukv pos trm part off fin 0 ue nn w0 w1 w2 w3 hl hb.t hb.n hb.s hb.q hu.p hpt hof hfi rfl hn W hTw τ hS) ho ?_ fun w' τ' hS' ho' => .s9 hS' ho' hl hb hu hf hn hw hk hp
    rw [hp]
    rw [nextV_of (inU_want (show padT3 (usOf l pos trm part off fin) nn = _ from rfl)).1, hk.1, hk.2]
    rw [hw.2.2.2]
    rfl
  | @s10 kat kv times since last least sum ukat ukv pos trm part off fin un ue nn w0 w1 w2 w3 hS ho hl hb hu hf hn hw hk hp =>
    obtain rfl := hu.u
    have hof : 0 ≤ off ∧ off ≤ 8192 := by have := rem_bd (pos := pos) (t := l.term) (by have := hl.bounds; omega); have := hu.o; have := hl.bounds; omega
    have hfi : 0 ≤ fin ∧ fin ≤ 8192 := by have := hu.f; have := hl.bounds; omega
    have hpt : 0 ≤ part ∧ part ≤ 200000 := by rw [hu.pt]; exact third_bd (by have := hl.bounds; omega) (by have := hl.bounds; omega) (quo_bd (by have := hl.bounds; omega) hu.p).1
    refine stepQ (wa_nx10 l timeout kat kv times now since last least sum ukat ukv pos trm part off fin 0 ue nn w0 w1 w2 w3 hl hb.t hb.n hb.s hb.q hu.p hpt hof hfi rfl hn W hTw τ hS) ho ?_ fun w' τ' hS' ho' => .s10 hS' ho' hl hb hu hf hn hw hk hp
    rw [hp]
    rw [nextV_of (inU_want (show padT4 (usOf l pos trm part off fin) nn = _ from rfl)).1, hk.1, hk.2]
    rw [hw.1]
    rfl
  | @s11 kat kv times since last least sum hS ho hm hp =>
    refine stepQ (wa_nx11 l timeout kat kv times now since last least sum (by have := hm; omega) W hTw τ hS) ho ?_ fun w' τ' hS' ho' => .s11 hS' ho' hm hp
    rw [hp]
    rfl
theorem Rep.mend {l : Lg} {timeout c now : Int} {p : Pr Tld WO} {W : World} {τ : Nat → Nat × Nat} (hTw : TabAt 0 Lib.deBruijn64tab W) {O : Nat → Prop} (h : Rep l timeout c now p W τ O) : Calls Tryz.prog 18 #[.pointer (some ⟨(τ 0).1, (τ 0).2 + 0, none⟩)] W fun e w' => e = .returned (mendV p.obs) ∧ ∃ τ' O', τ' 0 = τ 0 ∧ Fr O O' W w' ∧ Rep l timeout c now p w' τ' O' := by
  cases h with
  | @s0 kat kv times since last least sum ix hS ho hl hb hi hk hp =>
    refine stepQ (wa_md0 l timeout kat kv times now since last least sum ix hl hb.t hb.n hb.s hb.q hi W hTw τ hS) ho ?_ fun w' τ' hS' ho' => .s0 hS' ho' hl hb hi hk hp
    rw [hp]
    rw [subW_ask _ _ _ _ _ _ (show ix.toNat < l.subs.toNat by omega)]
    rfl
  | @s1 kat kv times since last least sum hS ho hm hp =>
    refine stepQ (wa_md1 l timeout kat kv times now since last least sum (by have := hm; omega) W hTw τ hS) ho ?_ fun w' τ' hS' ho' => .s1 hS' ho' hm hp
    rw [hp]
    rfl
  | @s2 kat kv times since last least sum ix hS ho hl hb hi hk hp =>
    refine stepQ (wa_md2 l timeout kat kv times now since last least sum ix hl hb.t hb.n hb.s hb.q hi W hTw τ hS) ho ?_ fun w' τ' hS' ho' => .s2 hS' ho' hl hb hi hk hp
    rw [hp]
    rw [subW_ask _ _ _ _ _ _ (show ix.toNat < l.subs.toNat by omega)]
    rfl
  | @s3 kat kv times since last least sum ukat ukv pos trm part off fin un ue hS ho hl hb hu hk hp =>
    obtain rfl := hu.u
    have hof : 0 ≤ off ∧ off ≤ 8192 := by have := rem_bd (pos := pos) (t := l.term) (by have := hl.bounds; omega); have := hu.o; have := hl.bounds; omega
    have hfi : 0 ≤ fin ∧ fin ≤ 8192 := by have := hu.f; have := hl.bounds; omega
    have hpt : 0 ≤ part ∧ part ≤ 200000 := by rw [hu.pt]; exact third_bd (by have := hl.bounds; omega) (by have := hl.bounds; omega) (quo_bd (by have := hl.bounds; omega) hu.p).1
    refine stepQ (wa_md3 l timeout kat kv times now since last least sum ukat ukv pos trm part off fin 0 ue hl hb.t hb.n hb.s hb.q hu.p hpt hof hfi rfl W hTw τ hS) ho ?_ fun w' τ' hS' ho' => .s3 hS' ho' hl hb hu hk hp
    rw [hp]
    rw [(inU_want (unstickT_ask (l := Lgn l) hl hu.p)).2]
    rfl
  | @s4 kat kv times since last least sum ukat ukv pos trm part off fin un ue hS ho hl hb hu hf hk hp =>
    obtain rfl := hu.u
    have hof : 0 ≤ off ∧ off ≤ 8192 := by have := rem_bd (pos := pos) (t := l.term) (by have := hl.bounds; omega); have := hu.o; have := hl.bounds; omega
    have hfi : 0 ≤ fin ∧ fin ≤ 8192 := by have := hu.f; have := hl.bounds; omega
    have hpt : 0 ≤ part ∧ part ≤ 200000 := by rw [hu.pt]; exact third_bd (by have := hl.bounds; omega) (by have := hl.bounds; omega) (quo_bd (by have := hl.bounds; omega) hu.p).1
    refine stepQ (wa_md4 l timeout kat kv times now since last least sum ukat ukv pos trm part off fin 0 ue hl hb.t hb.n hb.s hb.q hu.p hpt hof hfi rfl W hTw τ hS) ho ?_ fun w' τ' hS' ho' => .s4 hS' ho' hl hb hu hf hk hp
    rw [hp]
    rw [(inU_want (lookT_ask (usOf l pos trm part off fin))).2]
    rfl
  | @s5 kat kv times since last least sum ukat ukv pos trm part off fin un ue nn w0 w1 w2 w3 hS ho hl hb hu hf hn hw hk hp =>
    obtain rfl := hu.u
    have hof : 0 ≤ off ∧ off ≤ 8192 := by have := rem_bd (pos := pos) (t := l.term) (by have := hl.bounds; omega); have := hu.o; have := hl.bounds; omega
    have hfi : 0 ≤ fin ∧ fin ≤ 8192 := by have := hu.f; have := hl.bounds; omega
    have hpt : 0 ≤ part ∧ part ≤ 200000 := by rw [hu.pt]; exact third_bd (by have := hl.bounds; omega) (by have := hl.bounds; omega) (quo_bd (by have := hl.bounds; omega) hu.p).1
    refine stepQ (wa_md5 l timeout kat kv times now since last least sum ukat ukv pos trm part off fin 0 ue nn w0 w1 w2 w3 hl hb.t hb.n hb.s hb.q hu.p hpt hof hfi rfl hn W hTw τ hS) ho ?_ fun w' τ' hS' ho' => .s5 hS' ho' hl hb hu hf hn hw hk hp
    rw [hp]
    have hto := to_pos hl hu hf
    rw [(inU_want (padT_ask (usOf l pos trm part off fin) nn)).2]
    show _ = Ending.returned (mendV (_, if pos / l.term * l.term + fin > 0 then pos else 0, pos / l.term * l.term + fin))
    rw [if_pos hto.1, mendV, if_pos hto.1, hto.2]
  | @s6 kat kv times since last least sum ukat ukv pos trm part off fin un ue atv fnd k hS ho hl hb hu hf ha hn6 hk hp =>
    obtain rfl := hu.u
    have hof : 0 ≤ off ∧ off ≤ 8192 := by have := rem_bd (pos := pos) (t := l.term) (by have := hl.bounds; omega); have := hu.o; have := hl.bounds; omega
    have hfi : 0 ≤ fin ∧ fin ≤ 8192 := by have := hu.f; have := hl.bounds; omega
    have hpt : 0 ≤ part ∧ part ≤ 200000 := by rw [hu.pt]; exact third_bd (by have := hl.bounds; omega) (by have := hl.bounds; omega) (quo_bd (by have := hl.bounds; omega) hu.p).1
    have hatv : -32 ≤ atv ∧ atv ≤ 10000 := by omega
    have hfnd : 0 ≤ fnd ∧ fnd ≤ 10000 := by omega
    refine stepQ (wa_md6 l timeout kat kv times now since last least sum ukat ukv pos trm part off fin 0 ue atv fnd hl hb.t hb.n hb.s hb.q hu.p hpt hof hfi rfl hatv hfnd W hTw τ hS) ho ?_ fun w' τ' hS' ho' => .s6 hS' ho' hl hb hu hf ha hn6 hk hp
    rw [hp]
    have hto := to_pos hl hu hf
    rw [(inU_want (backT_ask (u := (usOf l pos trm part off fin)) (k := k) (f := fnd) (b := atv) (by show ¬ atv < off; omega))).2]
    show _ = Ending.returned (mendV (_, if pos / l.term * l.term + fin > 0 then pos else 0, pos / l.term * l.term + fin))
    rw [if_pos hto.1, mendV, if_pos hto.1, hto.2]
  | @s7 kat kv times since last least sum ukat ukv pos trm part off fin un ue atv k hS ho hl hb hu hf ha hk hp =>
    obtain rfl := hu.u
    have hof : 0 ≤ off ∧ off ≤ 8192 := by have := rem_bd (pos := pos) (t := l.term) (by have := hl.bounds; omega); have := hu.o; have := hl.bounds; omega
    have hfi : 0 ≤ fin ∧ fin ≤ 8192 := by have := hu.f; have := hl.bounds; omega
    have hpt : 0 ≤ part ∧ part ≤ 200000 := by rw [hu.pt]; exact third_bd (by have := hl.bounds; omega) (by have := hl.bounds; omega) (quo_bd (by have := hl.bounds; omega) hu.p).1
    have hatv : -32 ≤ atv ∧ atv ≤ 10000 := by omega
    refine stepQ (wa_md7 l timeout kat kv times now since last least sum ukat ukv pos trm part off fin 0 ue atv hl hb.t hb.n hb.s hb.q hu.p hpt hof hfi rfl hatv W hTw τ hS) ho ?_ fun w' τ' hS' ho' => .s7 hS' ho' hl hb hu hf ha hk hp
    rw [hp]
    have hto := to_pos hl hu hf
    rw [(inU_want (aheadT_ask (u := (usOf l pos trm part off fin)) (k := k) (a := atv) (by show ¬ atv ≥ fin; omega))).2]
    show _ = Ending.returned (mendV (_, if pos / l.term * l.term + fin > 0 then pos else 0, pos / l.term * l.term + fin))
    rw [if_pos hto.1, mendV, if_pos hto.1, hto.2]
  | @s8 kat kv times since last least sum ukat ukv pos trm part off fin un ue nn w0 w1 w2 w3 hS ho hl hb hu hf hn hw hk hp =>
    obtain rfl := hu.u
    have hof : 0 ≤ off ∧ off ≤ 8192 := by have := rem_bd (pos := pos) (t := l.term) (by have := hl.bounds; omega); have := hu.o; have := hl.bounds; omega
    have hfi : 0 ≤ fin ∧ fin ≤ 8192 := by have := hu.f; have := hl.bounds; omega
    have hpt : 0 ≤ part ∧ part ≤ 200000 := by rw [hu.pt]; exact third_bd (by have := hl.bounds; omega) (by have := hl.bounds; omega) (quo_bd (by have := hl.bounds; omega) hu.p).1
    refine stepQ (wa_md8 l timeout kat kv times now since last least sum ukat ukv pos trm part off fin 0 ue nn w0 w1 w2 w3 hl hb.t hb.n hb.s hb.q hu.p hpt hof hfi rfl hn W hTw τ hS) ho ?_ fun w' τ' hS' ho' => .s8 hS' ho' hl hb hu hf hn hw hk hp
    rw [hp]
    have hto := to_pos hl hu hf
    rw [(inU_want (show padT2 (usOf l pos trm part off fin) nn = _ from rfl)).2]
    show _ = Ending.returned (mendV (_, if pos / l.term * l.term + fin > 0 then pos else 0, pos / l.term * l.term + fin))
    rw [if_pos hto.1, mendV, if_pos hto.1, hto.2]
  | @s9 kat kv times since last least sum ukat ukv pos trm part off fin un ue nn w0 w1 w2 w3 hS ho hl hb hu hf hn hw hk hp =>
    obtain rfl := hu.u
    have hof : 0 ≤ off ∧ off ≤ 8192 := by have := rem_bd (pos := pos) (t := l.term) (by have := hl.bounds; omega); have := hu.o; have := hl.bounds; omega
    have hfi : 0 ≤ fin ∧ fin ≤ 8192 := by have := hu.f; have := hl.bounds; omega
    have hpt : 0 ≤ part ∧ part ≤ 200000 := by rw [hu.pt]; exact third_bd (by have := hl.bounds; omega) (by have := hl.bounds; omega) (quo_bd (by have := hl.bounds; omega) hu.p).1
    refine stepQ (wa_md9 l timeout kat kv times now since last least sum ukat ukv pos trm part off fin 0 ue nn w0 w1 w2 w3 hl hb.t hb.n hb.s hb.q hu.p hpt hof hfi rfl hn W hTw τ hS) ho ?_ fun w' τ' hS' ho' => .s9 hS' ho' hl hb hu hf hn hw hk hp
    rw [hp]
    have hto := to_pos hl hu hf
    rw [(inU_want (show padT3 (usOf l pos trm part off fin) nn = _ from rfl)).2]
    show _ = Ending.returned (mendV (_, if pos / l.term * l.term + fin > 0 then pos else 0, pos / l.term * l.term + fin))
    rw [if_pos hto.1, mendV, if_pos hto.1, hto.2]
  | @s10 kat kv times since last least sum ukat ukv pos trm part off fin un ue nn w0 w1 w2 w3 hS ho hl hb hu hf hn hw hk hp =>
    obtain rfl := hu.u
    have hof : 0 ≤ off ∧ off ≤ 8192 := by have := rem_bd (pos := pos) (t := l.term) (by have := hl.bounds; omega); have := hu.o; have := hl.bounds; omega
    have hfi : 0 ≤ fin ∧ fin ≤ 8192 := by have := hu.f; have := hl.bounds; omega
    have hpt : 0 ≤ part ∧ part ≤ 200000 := by rw [hu.pt]; exact third_bd (by have := hl.bounds; omega) (by have := hl.bounds; omega) (quo_bd (by have := hl.bounds; omega) hu.p).1
    refine stepQ (wa_md10 l timeout kat kv times now since last least sum ukat ukv pos trm part off fin 0 ue nn w0 w1 w2 w3 hl hb.t hb.n hb.s hb.q hu.p hpt hof hfi rfl hn W hTw τ hS) ho ?_ fun w' τ' hS' ho' => .s10 hS' ho' hl hb hu hf hn hw hk hp
    rw [hp]
    have hto := to_pos hl hu hf
    rw [(inU_want (show padT4 (usOf l pos trm part off fin) nn = _ from rfl)).2]
    show _ = Ending.returned (mendV (_, if pos / l.term * l.term + fin > 0 then pos else 0, pos / l.term * l.term + fin))
    rw [if_pos hto.1, mendV, if_pos hto.1, hto.2]
  | @s11 kat kv times since last least sum hS ho hm hp =>
    refine stepQ (wa_md11 l timeout kat kv times now since last least sum (by have := hm; omega) W hTw τ hS) ho ?_ fun w' τ' hS' ho' => .s11 hS' ho' hm hp
    rw [hp]
    rfl
theorem Rep.bytes {l : Lg} {timeout c now : Int} {p : Pr Tld WO} {W : World} {τ : Nat → Nat × Nat} (hTw : TabAt 0 Lib.deBruijn64tab W) {O : Nat → Prop} (h : Rep l timeout c now p W τ O) : Calls Tryz.prog 19 #[.pointer (some ⟨(τ 0).1, (τ 0).2 + 0, none⟩)] W fun e w' => e = .returned (.int .i64 p.obs.1) ∧ ∃ τ' O', τ' 0 = τ 0 ∧ Fr O O' W w' ∧ Rep l timeout c now p w' τ' O' := by
  cases h with
  | @s0 kat kv times since last least sum ix hS ho hl hb hi hk hp =>
    refine stepQ (wa_by0 l timeout kat kv times now since last least sum ix hl hb.t hb.n hb.s hb.q hi W hTw τ hS) ho ?_ fun w' τ' hS' ho' => .s0 hS' ho' hl hb hi hk hp
    rw [hp]
    rw [subW_ask _ _ _ _ _ _ (show ix.toNat < l.subs.toNat by omega)]
    all_goals first | rfl | simp [Pr.obs]
  | @s1 kat kv times since last least sum hS ho hm hp =>
    refine stepQ (wa_by1 l timeout kat kv times now since last least sum (by have := hm; omega) W hTw τ hS) ho ?_ fun w' τ' hS' ho' => .s1 hS' ho' hm hp
    rw [hp]
    all_goals first | rfl | simp [Pr.obs]
  | @s2 kat kv times since last least sum ix hS ho hl hb hi hk hp =>
    refine stepQ (wa_by2 l timeout kat kv times now since last least sum ix hl hb.t hb.n hb.s hb.q hi W hTw τ hS) ho ?_ fun w' τ' hS' ho' => .s2 hS' ho' hl hb hi hk hp
    rw [hp]
    rw [subW_ask _ _ _ _ _ _ (show ix.toNat < l.subs.toNat by omega)]
    all_goals first | rfl | simp [Pr.obs]
  | @s3 kat kv times since last least sum ukat ukv pos trm part off fin un ue hS ho hl hb hu hk hp =>
    obtain rfl := hu.u
    have hof : 0 ≤ off ∧ off ≤ 8192 := by have := rem_bd (pos := pos) (t := l.term) (by have := hl.bounds; omega); have := hu.o; have := hl.bounds; omega
    have hfi : 0 ≤ fin ∧ fin ≤ 8192 := by have := hu.f; have := hl.bounds; omega
    have hpt : 0 ≤ part ∧ part ≤ 200000 := by rw [hu.pt]; exact third_bd (by have := hl.bounds; omega) (by have := hl.bounds; omega) (quo_bd (by have := hl.bounds; omega) hu.p).1
    refine stepQ (wa_by3 l timeout kat kv times now since last least sum ukat ukv pos trm part off fin 0 ue hl hb.t hb.n hb.s hb.q hu.p hpt hof hfi rfl W hTw τ hS) ho ?_ fun w' τ' hS' ho' => .s3 hS' ho' hl hb hu hk hp
    rw [hp]
    rw [(inU_want (unstickT_ask (l := Lgn l) hl hu.p)).2]
    all_goals first | rfl | simp
  | @s4 kat kv times since last least sum ukat ukv pos trm part off fin un ue hS ho hl hb hu hf hk hp =>
    obtain rfl := hu.u
    have hof : 0 ≤ off ∧ off ≤ 8192 := by have := rem_bd (pos := pos) (t := l.term) (by have := hl.bounds; omega); have := hu.o; have := hl.bounds; omega
    have hfi : 0 ≤ fin ∧ fin ≤ 8192 := by have := hu.f; have := hl.bounds; omega
    have hpt : 0 ≤ part ∧ part ≤ 200000 := by rw [hu.pt]; exact third_bd (by have := hl.bounds; omega) (by have := hl.bounds; omega) (quo_bd (by have := hl.bounds; omega) hu.p).1
    refine stepQ (wa_by4 l timeout kat kv times now since last least sum ukat ukv pos trm part off fin 0 ue hl hb.t hb.n hb.s hb.q hu.p hpt hof hfi rfl W hTw τ hS) ho ?_ fun w' τ' hS' ho' => .s4 hS' ho' hl hb hu hf hk hp
    rw [hp]
    rw [(inU_want (lookT_ask (usOf l pos trm part off fin))).2]
    all_goals first | rfl | simp
  | @s5 kat kv times since last least sum ukat ukv pos trm part off fin un ue nn w0 w1 w2 w3 hS ho hl hb hu hf hn hw hk hp =>
    obtain rfl := hu.u
    have hof : 0 ≤ off ∧ off ≤ 8192 := by have := rem_bd (pos := pos) (t := l.term) (by have := hl.bounds; omega); have := hu.o; have := hl.bounds; omega
    have hfi : 0 ≤ fin ∧ fin ≤ 8192 := by have := hu.f; have := hl.bounds; omega
    have hpt : 0 ≤ part ∧ part ≤ 200000 := by rw [hu.pt]; exact third_bd (by have := hl.bounds; omega) (by have := hl.bounds; omega) (quo_bd (by have := hl.bounds; omega) hu.p).1
    refine stepQ (wa_by5 l timeout kat kv times now since last least sum ukat ukv pos trm part off fin 0 ue nn w0 w1 w2 w3 hl hb.t hb.n hb.s hb.q hu.p hpt hof hfi rfl hn W hTw τ hS) ho ?_ fun w' τ' hS' ho' => .s5 hS' ho' hl hb hu hf hn hw hk hp
    rw [hp]
    rw [(inU_want (padT_ask (usOf l pos trm part off fin) nn)).2]
    all_goals first | rfl | simp
  | @s6 kat kv times since last least sum ukat ukv pos trm part off fin un ue atv fnd k hS ho hl hb hu hf ha hn6 hk hp =>
    obtain rfl := hu.u
    have hof : 0 ≤ off ∧ off ≤ 8192 := by have := rem_bd (pos := pos) (t := l.term) (by have := hl.bounds; omega); have := hu.o; have := hl.bounds; omega
    have hfi : 0 ≤ fin ∧ fin ≤ 8192 := by have := hu.f; have := hl.bounds; omega
    have hpt : 0 ≤ part ∧ part ≤ 200000 := by rw [hu.pt]; exact third_bd (by have := hl.bounds; omega) (by have := hl.bounds; omega) (quo_bd (by have := hl.bounds; omega) hu.p).1
    have hatv : -32 ≤ atv ∧ atv ≤ 10000 := by omega
    have hfnd : 0 ≤ fnd ∧ fnd ≤ 10000 := by omega
    refine stepQ (wa_by6 l timeout kat kv times now since last least sum ukat ukv pos trm part off fin 0 ue atv fnd hl hb.t hb.n hb.s hb.q hu.p hpt hof hfi rfl hatv hfnd W hTw τ hS) ho ?_ fun w' τ' hS' ho' => .s6 hS' ho' hl hb hu hf ha hn6 hk hp
    rw [hp]
    rw [(inU_want (backT_ask (u := (usOf l pos trm part off fin)) (k := k) (f := fnd) (b := atv) (by show ¬ atv < off; omega))).2]
    all_goals first | rfl | simp
  | @s7 kat kv times since last least sum ukat ukv pos trm part off fin un ue atv k hS ho hl hb hu hf ha hk hp =>
    obtain rfl := hu.u
    have hof : 0 ≤ off ∧ off ≤ 8192 := by have := rem_bd (pos := pos) (t := l.term) (by have := hl.bounds; omega); have := hu.o; have := hl.bounds; omega
    have hfi : 0 ≤ fin ∧ fin ≤ 8192 := by have := hu.f; have := hl.bounds; omega
    have hpt : 0 ≤ part ∧ part ≤ 200000 := by rw [hu.pt]; exact third_bd (by have := hl.bounds; omega) (by have := hl.bounds; omega) (quo_bd (by have := hl.bounds; omega) hu.p).1
    have hatv : -32 ≤ atv ∧ atv ≤ 10000 := by omega
    refine stepQ (wa_by7 l timeout kat kv times now since last least sum ukat ukv pos trm part off fin 0 ue atv hl hb.t hb.n hb.s hb.q hu.p hpt hof hfi rfl hatv W hTw τ hS) ho ?_ fun w' τ' hS' ho' => .s7 hS' ho' hl hb hu hf ha hk hp
    rw [hp]
    rw [(inU_want (aheadT_ask (u := (usOf l pos trm part off fin)) (k := k) (a := atv) (by show ¬ atv ≥ fin; omega))).2]
    all_goals first | rfl | simp
  | @s8 kat kv times since last least sum ukat ukv pos trm part off fin un ue nn w0 w1 w2 w3 hS ho hl hb hu hf hn hw hk hp =>
    obtain rfl := hu.u
    have hof : 0 ≤ off ∧ off ≤ 8192 := by have := rem_bd (pos := pos) (t := l.term) (by have := hl.bounds; omega); have := hu.o; have := hl.bounds; omega
    have hfi : 0 ≤ fin ∧ fin ≤ 8192 := by have := hu.f; have := hl.bounds; omega
    have hpt : 0 ≤ part ∧ part ≤ 200000 := by rw [hu.pt]; exact third_bd (by have := hl.bounds; omega) (by have := hl.bounds; omega) (quo_bd (by have := hl.bounds; omega) hu.p).1
    refine stepQ (wa_by8 l timeout kat kv times now since last least sum ukat ukv pos trm part off fin 0 ue nn w0 w1 w2 w3 hl hb.t hb.n hb.s hb.q hu.p hpt hof hfi rfl hn W hTw τ hS) ho ?_ fun w' τ' hS' ho' => .s8 hS' ho' hl hb hu hf hn hw hk hp
    rw [hp]
    rw [(inU_want (show padT2 (usOf l pos trm part off fin) nn = _ from rfl)).2]
    all_goals first | rfl | simp
  | @s9 kat kv times since last least sum ukat ukv pos trm part off fin un ue nn w0 w1 w2 w3 hS ho hl hb hu hf hn hw hk hp =>
    obtain rfl := hu.u
    have hof : 0 ≤ off ∧ off ≤ 8192 := by have := rem_bd (pos := pos) (t := l.term) (by have := hl.bounds; omega); have := hu.o; have := hl.bounds; omega
    have hfi : 0 ≤ fin ∧ fin ≤ 8192 := by have := hu.f; have := hl.bounds; omega
    have hpt : 0 ≤ part ∧ part ≤ 200000 := by rw [hu.pt]; exact third_bd (by have := hl.bounds; omega) (by have := hl.bounds; omega) (quo_bd (by have := hl.bounds; omega) hu.p).1
    refine stepQ (wa_by9 l timeout kat kv times now since last least sum ukat ukv pos trm part off fin 0 ue nn w0 w1 w2 w3 hl hb.t hb.n hb.s hb.q hu.p hpt hof hfi rfl hn W hTw τ hS) ho ?_ fun w' τ' hS' ho' => .s9 hS' ho' hl hb hu hf hn hw hk hp
    rw [hp]
    rw [(inU_want (show padT3 (usOf l pos trm part off fin) nn = _ from rfl)).2]
    all_goals first | rfl | simp
  | @s10 kat kv times since last least sum ukat ukv pos trm part off fin un ue nn w0 w1 w2 w3 hS ho hl hb hu hf hn hw hk hp =>
    obtain rfl := hu.u
    have hof : 0 ≤ off ∧ off ≤ 8192 := by have := rem_bd (pos := pos) (t := l.term) (by have := hl.bounds; omega); have := hu.o; have := hl.bounds; omega
    have hfi : 0 ≤ fin ∧ fin ≤ 8192 := by have := hu.f; have := hl.bounds; omega
    have hpt : 0 ≤ part ∧ part ≤ 200000 := by rw [hu.pt]; exact third_bd (by have := hl.bounds; omega) (by have := hl.bounds; omega) (quo_bd (by have := hl.bounds; omega) hu.p).1
    refine stepQ (wa_by10 l timeout kat kv times now since last least sum ukat ukv pos trm part off fin 0 ue nn w0 w1 w2 w3 hl hb.t hb.n hb.s hb.q hu.p hpt hof hfi rfl hn W hTw τ hS) ho ?_ fun w' τ' hS' ho' => .s10 hS' ho' hl hb hu hf hn hw hk hp
    rw [hp]
    rw [(inU_want (show padT4 (usOf l pos trm part off fin) nn = _ from rfl)).2]
    all_goals first | rfl | simp
  | @s11 kat kv times since last least sum hS ho hm hp =>
    refine stepQ (wa_by11 l timeout kat kv times now since last least sum (by have := hm; omega) W hTw τ hS) ho ?_ fun w' τ' hS' ho' => .s11 hS' ho' hm hp
    rw [hp]
    all_goals first | rfl | simp [Pr.obs]
theorem Rep.tick {l : Lg} {timeout c now : Int} {p : Pr Tld WO} {W : World} {τ : Nat → Nat × Nat} (hTw : TabAt 0 Lib.deBruijn64tab W) {O : Nat → Prop} (h : Rep l timeout c now p W τ O) (now2 : Int) (h2 : 0 ≤ now2 ∧ now2 ≤ 1125899906842624) : Calls Tryz.prog 20 #[.pointer (some ⟨(τ 0).1, (τ 0).2 + 0, none⟩), .int .i64 now2] W fun e w' => e = .returned (.tuple #[]) ∧ ∃ τ' O', τ' 0 = τ 0 ∧ Fr O O' W w' ∧ Rep l timeout c now2 p w' τ' O' := by
  cases h with
  | @s0 kat kv times since last least sum ix hS ho hl hb hi hk hp =>
    exact stepQ (wa_tk0 l timeout kat kv times now since last least sum ix now2 hl hb.t hb.n hb.s hb.q hi W hTw τ hS) ho rfl fun w' τ' hS' ho' => .s0 hS' ho' hl ⟨hb.t, h2, hb.s, hb.m, hb.c⟩ hi hk hp
  | @s1 kat kv times since last least sum hS ho hm hp =>
    exact stepQ (wa_tk1 l timeout kat kv times now since last least sum now2 (by have := hm; omega) W hTw τ hS) ho rfl fun w' τ' hS' ho' => .s1 hS' ho' hm hp
  | @s2 kat kv times since last least sum ix hS ho hl hb hi hk hp =>
    exact stepQ (wa_tk2 l timeout kat kv times now since last least sum ix now2 hl hb.t hb.n hb.s hb.q hi W hTw τ hS) ho rfl fun w' τ' hS' ho' => .s2 hS' ho' hl ⟨hb.t, h2, hb.s, hb.m, hb.c⟩ hi hk hp
  | @s3 kat kv times since last least sum ukat ukv pos trm part off fin un ue hS ho hl hb hu hk hp =>
    obtain rfl := hu.u
    have hof : 0 ≤ off ∧ off ≤ 8192 := by have := rem_bd (pos := pos) (t := l.term) (by have := hl.bounds; omega); have := hu.o; have := hl.bounds; omega
    have hfi : 0 ≤ fin ∧ fin ≤ 8192 := by have := hu.f; have := hl.bounds; omega
    have hpt : 0 ≤ part ∧ part ≤ 200000 := by rw [hu.pt]; exact third_bd (by have := hl.bounds; omega) (by have := hl.bounds; omega) (quo_bd (by have := hl.bounds; omega) hu.p).1
    exact stepQ (wa_tk3 l timeout kat kv times now since last least sum ukat ukv pos trm part off fin 0 ue now2 hl hb.t hb.n hb.s hb.q hu.p hpt hof hfi rfl W hTw τ hS) ho rfl fun w' τ' hS' ho' => .s3 hS' ho' hl ⟨hb.t, h2, hb.s, hb.m, hb.c⟩ hu hk hp
  | @s4 kat kv times since last least sum ukat ukv pos trm part off fin un ue hS ho hl hb hu hf hk hp =>
    obtain rfl := hu.u
    have hof : 0 ≤ off ∧ off ≤ 8192 := by have := rem_bd (pos := pos) (t := l.term) (by have := hl.bounds; omega); have := hu.o; have := hl.bounds; omega
    have hfi : 0 ≤ fin ∧ fin ≤ 8192 := by have := hu.f; have := hl.bounds; omega
    have hpt : 0 ≤ part ∧ part ≤ 200000 := by rw [hu.pt]; exact third_bd (by have := hl.bounds; omega) (by have := hl.bounds; omega) (quo_bd (by have := hl.bounds; omega) hu.p).1
    exact stepQ (wa_tk4 l timeout kat kv times now since last least sum ukat ukv pos trm part off fin 0 ue now2 hl hb.t hb.n hb.s hb.q hu.p hpt hof hfi rfl W hTw τ hS) ho rfl fun w' τ' hS' ho' => .s4 hS' ho' hl ⟨hb.t, h2, hb.s, hb.m, hb.c⟩ hu hf hk hp
  | @s5 kat kv times since last least sum ukat ukv pos trm part off fin un ue nn w0 w1 w2 w3 hS ho hl hb hu hf hn hw hk hp =>
    obtain rfl := hu.u
    have hof : 0 ≤ off ∧ off ≤ 8192 := by have := rem_bd (pos := pos) (t := l.term) (by have := hl.bounds; omega); have := hu.o; have := hl.bounds; omega
    have hfi : 0 ≤ fin ∧ fin ≤ 8192 := by have := hu.f; have := hl.bounds; omega
    have hpt : 0 ≤ part ∧ part ≤ 200000 := by rw [hu.pt]; exact third_bd (by have := hl.bounds; omega) (by have := hl.bounds; omega) (quo_bd (by have := hl.bounds; omega) hu.p).1
    exact stepQ (wa_tk5 l timeout kat kv times now since last least sum ukat ukv pos trm part off fin 0 ue nn w0 w1 w2 w3 now2 hl hb.t hb.n hb.s hb.q hu.p hpt hof hfi rfl hn W hTw τ hS) ho rfl fun w' τ' hS' ho' => .s5 hS' ho' hl ⟨hb.t, h2, hb.s, hb.m, hb.c⟩ hu hf hn hw hk hp
  | @s6 kat kv times since last least sum ukat ukv pos trm part off fin un ue atv fnd k hS ho hl hb hu hf ha hn6 hk hp =>
    obtain rfl := hu.u
    have hof : 0 ≤ off ∧ off ≤ 8192 := by have := rem_bd (pos := pos) (t := l.term) (by have := hl.bounds; omega); have := hu.o; have := hl.bounds; omega
    have hfi : 0 ≤ fin ∧ fin ≤ 8192 := by have := hu.f; have := hl.bounds; omega
    have hpt : 0 ≤ part ∧ part ≤ 200000 := by rw [hu.pt]; exact third_bd (by have := hl.bounds; omega) (by have := hl.bounds; omega) (quo_bd (by have := hl.bounds; omega) hu.p).1
    have hatv : -32 ≤ atv ∧ atv ≤ 10000 := by omega
    have hfnd : 0 ≤ fnd ∧ fnd ≤ 10000 := by omega
    exact stepQ (wa_tk6 l timeout kat kv times now since last least sum ukat ukv pos trm part off fin 0 ue atv fnd now2 hl hb.t hb.n hb.s hb.q hu.p hpt hof hfi rfl hatv hfnd W hTw τ hS) ho rfl fun w' τ' hS' ho' => .s6 hS' ho' hl ⟨hb.t, h2, hb.s, hb.m, hb.c⟩ hu hf ha hn6 hk hp
  | @s7 kat kv times since last least sum ukat ukv pos trm part off fin un ue atv k hS ho hl hb hu hf ha hk hp =>
    obtain rfl := hu.u
    have hof : 0 ≤ off ∧ off ≤ 8192 := by have := rem_bd (pos := pos) (t := l.term) (by have := hl.bounds; omega); have := hu.o; have := hl.bounds; omega
    have hfi : 0 ≤ fin ∧ fin ≤ 8192 := by have := hu.f; have := hl.bounds; omega
    have hpt : 0 ≤ part ∧ part ≤ 200000 := by rw [hu.pt]; exact third_bd (by have := hl.bounds; omega) (by have := hl.bounds; omega) (quo_bd (by have := hl.bounds; omega) hu.p).1
    have hatv : -32 ≤ atv ∧ atv ≤ 10000 := by omega
    exact stepQ (wa_tk7 l timeout kat kv times now since last least sum ukat ukv pos trm part off fin 0 ue atv now2 hl hb.t hb.n hb.s hb.q hu.p hpt hof hfi rfl hatv W hTw τ hS) ho rfl fun w' τ' hS' ho' => .s7 hS' ho' hl ⟨hb.t, h2, hb.s, hb.m, hb.c⟩ hu hf ha hk hp
  | @s8 kat kv times since last least sum ukat ukv pos trm part off fin un ue nn w0 w1 w2 w3 hS ho hl hb hu hf hn hw hk hp =>
    obtain rfl := hu.u
    have hof : 0 ≤ off ∧ off ≤ 8192 := by have := rem_bd (pos := pos) (t := l.term) (by have := hl.bounds; omega); have := hu.o; have := hl.bounds; omega
    have hfi : 0 ≤ fin ∧ fin ≤ 8192 := by have := hu.f; have := hl.bounds; omega
    have hpt : 0 ≤ part ∧ part ≤ 200000 := by rw [hu.pt]; exact third_bd (by have := hl.bounds; omega) (by have := hl.bounds; omega) (quo_bd (by have := hl.bounds; omega) hu.p).1
    exact stepQ (wa_tk8 l timeout kat kv times now since last least sum ukat ukv pos trm part off fin 0 ue nn w0 w1 w2 w3 now2 hl hb.t hb.n hb.s hb.q hu.p hpt hof hfi rfl hn W hTw τ hS) ho rfl fun w' τ' hS' ho' => .s8 hS' ho' hl ⟨hb.t, h2, hb.s, hb.m, hb.c⟩ hu hf hn hw hk hp
  | @s9 kat kv times since last least sum ukat ukv pos trm part off fin un ue nn w0 w1 w2 w3 hS ho hl hb hu hf hn hw hk hp =>
    obtain rfl := hu.u
    have hof : 0 ≤ off ∧ off ≤ 8192 := by have := rem_bd (pos := pos) (t := l.term) (by have := hl.bounds; omega); have := hu.o; have := hl.bounds; omega
    have hfi : 0 ≤ fin ∧ fin ≤ 8192 := by have := hu.f; have := hl.bounds; omega
    have hpt : 0 ≤ part ∧ part ≤ 200000 := by rw [hu.pt]; exact third_bd (by have := hl.bounds; omega) (by have := hl.bounds; omega) (quo_bd (by have := hl.bounds; omega) hu.p).1
    exact stepQ (wa_tk9 l timeout kat kv times now since last least sum ukat ukv pos trm part off fin 0 ue nn w0 w1 w2 w3 now2 hl hb.t hb.n hb.s hb.q hu.p hpt hof hfi rfl hn W hTw τ hS) ho rfl fun w' τ' hS' ho' => .s9 hS' ho' hl ⟨hb.t, h2, hb.s, hb.m, hb.c⟩ hu hf hn hw hk hp
  | @s10 kat kv times since last least sum ukat ukv pos trm part off fin un ue nn w0 w1 w2 w3 hS ho hl hb hu hf hn hw hk hp =>
    obtain rfl := hu.u
    have hof : 0 ≤ off ∧ off ≤ 8192 := by have := rem_bd (pos := pos) (t := l.term) (by have := hl.bounds; omega); have := hu.o; have := hl.bounds; omega
    have hfi : 0 ≤ fin ∧ fin ≤ 8192 := by have := hu.f; have := hl.bounds; omega
    have hpt : 0 ≤ part ∧ part ≤ 200000 := by rw [hu.pt]; exact third_bd (by have := hl.bounds; omega) (by have := hl.bounds; omega) (quo_bd (by have := hl.bounds; omega) hu.p).1
    exact stepQ (wa_tk10 l timeout kat kv times now since last least sum ukat ukv pos trm part off fin 0 ue nn w0 w1 w2 w3 now2 hl hb.t hb.n hb.s hb.q hu.p hpt hof hfi rfl hn W hTw τ hS) ho rfl fun w' τ' hS' ho' => .s10 hS' ho' hl ⟨hb.t, h2, hb.s, hb.m, hb.c⟩ hu hf hn hw hk hp
  | @s11 kat kv times since last least sum hS ho hm hp =>
    exact stepQ (wa_tk11 l timeout kat kv times now since last least sum now2 (by have := hm; omega) W hTw τ hS) ho rfl fun w' τ' hS' ho' => .s11 hS' ho' hm hp
theorem Rep.take {l : Lg} {timeout c now : Int} {p : Pr Tld WO} {W : World} {τ : Nat → Nat × Nat} (hTw : TabAt 0 Lib.deBruijn64tab W) {O : Nat → Prop} (h : Rep l timeout c now p W τ O) (hc : c ≤ 900) (V : Int) (hV : 0 ≤ V ∧ V < 18446744073709551616) (dn : Bool) (ba : Option Addr) (bn bc : Nat) : Calls Tryz.prog 21 #[.pointer (some ⟨(τ 0).1, (τ 0).2 + 0, none⟩), .agg #[.int .u64 V, .bool dn, .slice ba bn bc]] W fun e w' => e = .returned (.tuple #[]) ∧ ∃ τ' O', τ' 0 = τ 0 ∧ Fr O O' W w' ∧ Rep l timeout (c + 1) now (p.run [⟨V, now⟩]) w' τ' O' := by
  cases h with
  | @s0 kat kv times since last least sum ix hS ho hl hb hi hk hp =>
    exact take_0 l hl timeout c hc V hV dn ba bn bc hTw hS ho hb hi hp
  | @s1 kat kv times since last least sum hS ho hm hp =>
    refine (wa_ta1 l timeout kat kv times now since last least sum V dn ba bn bc (by have := hm; omega) W hTw τ hS).mono ?_
    rintro e w' ⟨rfl, τ', hS', hmv, ht⟩
    exact ⟨rfl, τ', _, ht, fr_of hmv ho, .s1 hS' (fun i hi => ⟨i, hi, rfl⟩) (by omega) (by rw [hp]; rfl)⟩
  | @s2 kat kv times since last least sum ix hS ho hl hb hi hk hp =>
    exact take_2 l hl timeout c hc V hV dn ba bn bc hTw hS ho hb hi hp
  | @s3 kat kv times since last least sum ukat ukv pos trm part off fin un ue hS ho hl hb hu hk hp =>
    exact take_3 l hl timeout c hc V hV dn ba bn bc hTw hS ho hb hu hp
  | @s4 kat kv times since last least sum ukat ukv pos trm part off fin un ue hS ho hl hb hu hf hk hp =>
    exact take_4 l hl timeout c hc V hV dn ba bn bc hTw hS ho hb hu hf hk hp
  | @s5 kat kv times since last least sum ukat ukv pos trm part off fin un ue nn w0 w1 w2 w3 hS ho hl hb hu hf hn hw hk hp =>
    exact take_5 l hl timeout c hc V hV dn ba bn bc hTw hS ho hb hu hf hn hw hp
  | @s6 kat kv times since last least sum ukat ukv pos trm part off fin un ue atv fnd k hS ho hl hb hu hf ha hn6 hk hp =>
    exact take_6 l hl timeout c hc V hV dn ba bn bc hTw hS ho hb hu hf ha hn6 hp
  | @s7 kat kv times since last least sum ukat ukv pos trm part off fin un ue atv k hS ho hl hb hu hf ha hk hp =>
    exact take_7 l hl timeout c hc V hV dn ba bn bc hTw hS ho hb hu hf ha hp
  | @s8 kat kv times since last least sum ukat ukv pos trm part off fin un ue nn w0 w1 w2 w3 hS ho hl hb hu hf hn hw hk hp =>
    exact take_8 l hl timeout c hc V hV dn ba bn bc hTw hS ho hb hu hf hn hw hp
  | @s9 kat kv times since last least sum ukat ukv pos trm part off fin un ue nn w0 w1 w2 w3 hS ho hl hb hu hf hn hw hk hp =>
    exact take_9 l hl timeout c hc V hV dn ba bn bc hTw hS ho hb hu hf hn hw hp
  | @s10 kat kv times since last least sum ukat ukv pos trm part off fin un ue nn w0 w1 w2 w3 hS ho hl hb hu hf hn hw hk hp =>
    exact take_10 l hl timeout c hc V hV dn ba bn bc hTw hS ho hb hu hf hn hw hp
  | @s11 kat kv times since last least sum hS ho hm hp =>
    refine (wa_ta11 l timeout kat kv times now since last least sum V dn ba bn bc (by have := hm; omega) W hTw τ hS).mono ?_
    rintro e w' ⟨rfl, τ', hS', hmv, ht⟩
    exact ⟨rfl, τ', _, ht, fr_of hmv ho, .s11 hS' (fun i hi => ⟨i, hi, rfl⟩) (by omega) (by rw [hp]; rfl)⟩
end Go.Proofs.YtlaogoehmndcjaaGreatDoor.Sy
