/- RX, part x: a loop's head, where rows are given away. -/
import Derived.Test.YtljecfgfbebjiaaRXw
set_option linter.unusedVariables false
namespace Go.RX
theorem LoopW.frz {P : Program} {n n0 : Nat} {c : Code} {Q : Exit → Slots → Heap → Prop} {s : Slots} {H : Heap} (ys : List Nat) (h : frz ys s H fun s' H' => LoopW P n n0 c Q s' H') : LoopW P n n0 c Q s H := by
 intro E0 w0 hn E w a hsr hr hx
 obtain ⟨s', H', hk, hs⟩ := frz_spec h
 obtain ⟨E', hr', hsr', hx'⟩ := hs E w n a hr hsr
 exact hk E0 w0 hn E' w a hsr' hr' (hx.trans hx')
theorem W.frz {P : Program} {n n0 : Nat} {c : Code} {Q : Exit → Slots → Heap → Prop} {s : Slots} {H : Heap} (ys : List Nat) (h : frz ys s H fun s' H' => W P n n0 c Q s' H') : W P n n0 c Q s H := by
 intro E0 w0 hn E w a hsr hr hx
 obtain ⟨s', H', hk, hs⟩ := frz_spec h
 obtain ⟨E', hr', hsr', hx'⟩ := hs E w n a hr hsr
 exact hk E0 w0 hn E' w a hsr' hr' (hx.trans hx')
theorem W.frzAt {P : Program} {n n0 id : Nat} {ops : Array Oper} {d : Bool} {Q : Exit → Slots → Heap → Prop} {s : Slots} {H : Heap} (y : Nat) (_ : (look H.live y).isSome = true)
  (h : Go.RX.frz [y] s H fun s' H' => W P n n0 (.region id ops d) Q s' H') : W P n n0 (.region id ops d) Q s H := by
 exact W.frz [y] h
theorem gand {a b : Bool} (h1 : a = true) (h2 : b = true) : (bif a then b else false) = true := by rw [h1, h2]; rfl
end Go.RX
