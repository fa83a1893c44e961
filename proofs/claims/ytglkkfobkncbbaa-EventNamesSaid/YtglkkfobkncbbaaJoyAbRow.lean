import Derived.Test.YtglkkfobkncbbaaJoyAbFun
import Derived.Below
namespace Go.Ab
open Go.RowKit

/-- From a contract to the machine's own word on a call. -/
theorem calls_of_acalls {P : Program} {f : FuncId} {fn : Func} (hf : P.funcs[f]? = some fn) (hname : (fn.name == "runtime.NumGoroutine") = false) (hb : fn.body.isNone = false)
    {args : List AV} {H : Heap} {n : Nat} {K : AV → Heap → Nat → Prop} (h : ACalls P f args H n K) {m : NM} {w : World} (hH : HRel m H n w) (ha : ∀ v ∈ args, v.ok n = true) :
    Calls P f (args.map (AV.toV m)).toArray w fun e w' => ∃ x, e = .returned x ∧ ∃ (m' : NM) (v : AV) (H' : Heap) (n' : Nat), (v ≠ .junk → x = AV.toV m' v ∧ v.ok n' = true) ∧ HRel m' H' n' w' ∧ n ≤ n' ∧ NM.agree n m m' ∧ Fr m H w m' H' w' ∧ K v H' n' := by
  have := h.2 m w hH ha
  rw [run_callFunc hf hname hb] at this
  exact this

/-- A law that comes to true, of memory that it only reads. -/
theorem law_calls {P : Program} {f : FuncId} {fn : Func} (hf : P.funcs[f]? = some fn) (hname : (fn.name == "runtime.NumGoroutine") = false) (hb : fn.body.isNone = false)
    {args : List AV} {H : Heap} {n : Nat} (h : ACalls P f args H n fun v _ _ => v = .bo true) (hro : ∀ i b, H i = some b → b.ro = true) {m : NM} {w : World} (hH : HRel m H n w) (ha : ∀ v ∈ args, v.ok n = true) :
    Calls P f (args.map (AV.toV m)).toArray w fun e w' => e = .returned (.bool true) ∧ Below w.heap.size w w' :=
  (calls_of_acalls hf hname hb h hH ha).mono fun e w' ⟨x, he, m', v, H', n', hv, _, _, _, hfr, hK⟩ => by
    subst hK
    refine ⟨by rw [he, (hv (by simp)).1]; rfl, hfr.os, hfr.tape, hfr.output, hfr.size, fun k hk => hfr.keep k hk fun i b hi hr => ?_⟩
    rw [hro i b hi] at hr; cases hr

/-- Of numbers and bools alone. -/
theorem law_calls_nil {P : Program} {f : FuncId} {fn : Func} (hf : P.funcs[f]? = some fn) (hname : (fn.name == "runtime.NumGoroutine") = false) (hb : fn.body.isNone = false)
    {args : List AV} (h : ACalls P f args nilH 0 fun v _ _ => v = .bo true) (w : World) (ha : ∀ v ∈ args, v.ok 0 = true) {as : Array Value} (has : as = (args.map (AV.toV ⟨fun _ => 0, fun _ => 0⟩)).toArray) :
    Calls P f as w fun e w' => e = .returned (.bool true) ∧ Below w.heap.size w w' := by
  subst has
  exact law_calls hf hname hb h (fun i b hi => by simp [nilH] at hi) (nilH_rel _ 0 w) ha
end Go.Ab
