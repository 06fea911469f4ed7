/- Short names for what stands often in the printed texts. -/
import Derived.Test.YtngglgkemonibaaK0
namespace Go.Proofs.Ytngglgkemonibaa.P
open Go.RowKit Go.Proofs.YtngglgkemonibaaW.PrintWords Go.Proofs.YtngglgkemonibaaW.PrintLast Go.Proofs.YtngglgkemonibaaW.PrintMore
abbrev Y : Bool := true
abbrev Z : Bool := false
/-- a slot that is filled, written out -/
theorem Nz : (∀ (a : Act) (n : Tmp) (v : Value), a.put (some n) v = { a with tmps := a.tmps.setIfInBounds n v }) ∧ (∀ (a : Act) (v : Value), a.put none v = a) ∧
    (∀ (l : List Value) (i : Nat) (v : Value), l.toArray.setIfInBounds i v = (l.set i v).toArray) ∧ (∀ (x : Value) (xs : List Value) (v : Value), (x :: xs).set 0 v = v :: xs) ∧
    (∀ (x : Value) (xs : List Value) (i : Nat) (v : Value), (x :: xs).set (i + 1) v = x :: xs.set i v) ∧ (∀ n : Int, IntKind.i64.wrap n = wrap64 n) :=
  ⟨fun _ _ _ => rfl, fun _ _ => rfl, fun _ _ _ => by simp, fun _ _ _ => rfl, fun _ _ _ _ => rfl, i64_w⟩
section
variable {P : Program} {md : Region.Mode} {ops : Array Oper} {Q : Exit → Act → World → Prop} {S : World → Prop} {ds : List Nat}
theorem pX (i : Nat) (N : Option Tmp) (v : Value) {oi : Oper} {fuel : Nat} {l : Array Bool} {a : Act} {w : World} (l' : Array Bool) (hi : ops[i]? = some oi) (hN : oi.dst = N) (hc : anyB md ops l l' i = true)
    (hQ : ∀ c a w, Q (.panic c) (a.put oi.dst v) w → Q (.panic c) a w) (hy : Yields P ops oi v a) (a' : Act) (ha : a.put N v = a')
    (h : wpAnyLast P md ops Q S ds fuel l' a' w) : wpAnyLast P md ops Q S ds (fuel + 1) l a w := pure_ (i := i) (N := N) (v := v) (a' := a') l' hi hN hc hQ hy ha h
theorem tX (i : Nat) (N : Option Tmp) (v : Value) {oi : Oper} {fuel : Nat} {l : Array Bool} {a : Act} {w : World} (l' : Array Bool) (hi : ops[i]? = some oi) (hN : oi.dst = N) (hc : takeB md ops ds l l' i = true)
    (hQ : ∀ c a w, Q (.panic c) (a.put oi.dst v) w → Q (.panic c) a w) (hy : YieldsIf P ops S oi v a) (hS : S w) (a' : Act) (ha : a.put N v = a')
    (h : wpAnyLast P md ops Q S ds fuel l' a' w) : wpAnyLast P md ops Q S ds (fuel + 1) l a w := take_ (i := i) (N := N) (v := v) (a' := a') l' hi hN hc hQ hy hS ha h
end
end Go.Proofs.Ytngglgkemonibaa.P
