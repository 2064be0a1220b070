/- The walk over SourceChunks. -/
import Derived.Test.YtmppagiaonbggaaDoorWj
import Derived.Test.YtmppagiaonbggaaDoorWzGj1
import Derived.Test.YtmppagiaonbggaaDoorWzGj2
import Derived.Test.YtmppagiaonbggaaDoorWzGj3
/- The walk over SourceChunks. -/
namespace Go.Proofs.YtmppagiaonbggaaDoor
set_option linter.unusedVariables false
set_option linter.unusedSimpArgs false
set_option maxRecDepth 100000
open Go.RowKit
theorem wf_u8 {z : Int} (h : (Lit.int .u8 z).wf = true) : ∃ n : Nat, z = (n : Int) ∧ n < 256 := by
  have hw := h
  simp [Lit.wf, IntKind.min, IntKind.max, IntKind.signed, IntKind.bits] at hw
  exact ⟨z.toNat, by omega, by omega⟩
theorem chunks_walk (A : Option Addr) (c : Nat) (l : List (Fi × Value)) (hl : l.length ≤ 9223372036854775807) (hw : ∀ x ∈ l, x.1.wide) (ch k : Int) (hch : okI ch) (hk : okI k) (st : Nat) (hst : st < 256) (w : World) (h : Sh w) (hr : RdF w A l) :
    Calls Tryd.prog 5 #[.slice A l.length c, .int .i64 ch, .int .i64 k, .int .u8 (st : Int)] w fun e w' => e = .returned (.bool true) ∧ Below w.heap.size w w' := by
  rcases caseOf_in (l.map (·.1)) ch k with e | e | e
  · exact chunks_walk1 A c l hl hw ch k hch hk st hst w h hr e
  · exact chunks_walk2 A c l hl hw ch k hch hk st hst w h hr e
  · exact chunks_walk3 A c l hl hw ch k hch hk st hst w h hr e
end Go.Proofs.YtmppagiaonbggaaDoor
