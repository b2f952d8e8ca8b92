/- Stations: how their memories are written down. -/
import Derived.Test.YtppdhckcempmnaaGreatDoorAEFast3
namespace Go.AE
open Go.RowKit
noncomputable section
def ups (t : T Value) (l : List (Nat × Value)) : T Value := @List.rec (Nat × Value) (fun _ => T Value → T Value) (fun t => t) (fun x _ ih t => ih (T.set t x.1 x.2)) l t
def upd (t : T AObj) (l : List (Nat × AObj)) : T AObj := @List.rec (Nat × AObj) (fun _ => T AObj → T AObj) (fun t => t) (fun x _ ih t => ih (T.set t x.1 x.2)) l t
def celO (o : AObj) : T Value :=
  match o with
  | .row c _ _ => c
  | _ => .nil
def celM (o : Option AObj) : T Value := @Option.rec AObj (fun _ => T Value) .nil celO o
/-- an object's cells -/
def cel (t : T AObj) (i : Nat) : T Value := celM (T.getP t (posOf i))
def runN (n : Nat) (v : Value) (l : List Value) : List Value := @Nat.rec (fun _ => List Value) l (fun _ ih => v :: ih) n
def runs (l : List (Nat × Value)) : List Value := @List.rec (Nat × Value) (fun _ => List Value) [] (fun x _ ih => runN x.1 x.2 ih) l
theorem all0 {P : Program} : ∀ e ∈ ([] : List Ent), EntOK P e := fun _ h => by cases h
theorem allc {P : Program} {e : Ent} {l : List Ent} (h : EntOK P e) (k : ∀ e ∈ l, EntOK P e) : ∀ x ∈ e :: l, EntOK P x := fun x hx => by
  rcases List.mem_cons.1 hx with rfl | h'
  · exact h
  · exact k x h'
end
end Go.AE
