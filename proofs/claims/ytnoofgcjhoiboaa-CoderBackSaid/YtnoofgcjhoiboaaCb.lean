/- Words for the walks over package coder. -/
import Derived.Test.YtnoofgcjhoiboaaSl
import Derived.Test.YtnoofgcjhoiboaaMix
import Derived.Test.YtnoofgcjhoiboaaProg
import Derived.BigQuiet
import Derived.RowKit
import Derived.KernelRfl
import Derived.Deep.LoopGhost
import Derived.Lib.Hide
import Derived.Laws.ShiftsVar
namespace Go.Proofs.Ytnoofgcjhoiboaa
set_option linter.unusedVariables false
set_option linter.unusedSimpArgs false
open Go.RowKit

theorem mixed : Try.prog.follows .mixedOrders = true := by kernel_rfl
theorem info5 : (Try.prog.info? 5).map (fun i => (i.zero, i.size, i.bytes)) = some (some (.int .u8 0), 1, 1) := by kernel_rfl

/-- What a call leaves: its value, what is owned behind it, and all below B as it was. -/
def Ret (B : Nat) (w : World) (v : Value) (A : HP) (e : Ending) (w' : World) : Prop := e = .returned v ∧ Own B A w' ∧ Below B w w'
theorem Ret.le {B : Nat} {w : World} {v : Value} {A : HP} {e : Ending} {w' : World} (h : Ret B w v A e w') (hB : B ≤ w.heap.size) : B ≤ w'.heap.size := Nat.le_trans hB h.2.2.size

/-- A writer's state. -/
structure WS where
  out : List Int
  low : Int
  width : Int
  wait : Int
  full : Int
  sm : Bool
  dn : Bool

def bytesV (l : List Int) : List Value := l.map (.int .u8)
def wsCells (v : Value) (s : WS) : Array Value := #[v, .int .u64 s.low, .int .u64 s.width, .int .u8 s.wait, .int .i64 s.full, .bool s.sm, .bool s.dn]
def WrV (p : Nat) (v : Value) (s : WS) : HP := Bk p 66 (wsCells v s) * Rw 5 1 v s.out.length (bytesV s.out)
def Wr (p : Nat) (s : WS) : HP := Hex fun v => WrV p v s
instance {B p : Nat} {s : WS} : Loc B (Wr p s) := inferInstanceAs (Loc B (Hex fun v => Bk p _ _ * Rw _ _ _ _ _))

/-- append of one byte, into the writer's bytes. -/
theorem bytes_append {B : Nat} {R : HP} [Loc B R] {w : World} (hB : B ≤ w.heap.size) {v : Value} {l : List Int} (h : Own B (Rw 5 1 v l.length (bytesV l) * R) w) (b : Int) (hl : l.length + 1 ≤ 140737488355328) :
    ∃ g cap w', (Builtin.append_ #[38, 38] 38 #[v, .slice (some ⟨w.heap.size, 0, none⟩) 1 1]).run Try.prog (w.alloc (.cells #[.int .u8 b] 5)) = .ok (.slice (some ⟨g, 0, none⟩) (l.length + 1) cap) w' ∧
      Own B (Rw 5 1 (.slice (some ⟨g, 0, none⟩) (l.length + 1) cap) (l ++ [b]).length (bytesV (l ++ [b])) * R) w' ∧ Below B w w' := by
  obtain ⟨i0, hi, hz0, hz1, hz2⟩ := info_parts info5
  have h1 := h.alloc_keep hB (.cells #[.int .u8 b] 5)
  have hB1 : B ≤ (w.alloc (.cells #[.int .u8 b] 5)).heap.size := by simp; omega
  obtain ⟨v', w', hr, h2, h3, _, h5⟩ := run_append_own_at (P := Try.prog) (w.alloc (.cells #[.int .u8 b] 5)) B 38 38 5 i0 _ 1 1 Try.underlying38 hi hz0 hz1 hz2 rfl (by omega) v l.length (bytesV l) h1.row
    ⟨w.heap.size, 0, none⟩ 1 1 [.int .u8 b] rfl (by
      intro j u hj
      match j, hj with
      | 0, hj => simp at hj; subst hj; simp [Addr.add]) (by intro u hu; simp at hu; subst hu; rfl) (by unfold maxLen; omega) (by omega) hB1
  have h6 := Own.appended hB1 h1 h2 h3 h5
  obtain ⟨g, cap, rfl, _⟩ := h2.form (by omega)
  refine ⟨g, cap, w', hr, ?_, ((Below.refl B w).alloc hB _).trans h6.2⟩
  have := h6.1
  simpa [bytesV] using this

theorem wpList_append_run {P : Program} {ops : Array Oper} {Q : Exit → Act → World → Prop} {rest : List Oper} {o : Oper} {a : Act} {w w' : World} (hgd : o.guard = none) (s x : Operand) (t : TypeId) {v u v' : Value}
    (ho : o.op = .call { callee := .builtin .append, args := #[s, x], argTypes := #[t, t] }) (hs : a.eval s = v) (hx : a.eval x = u) (hr : (Builtin.append_ #[t, t] o.type #[v, u]).run P w = .ok v' w')
    (h : wpList P ops Q rest (a.put o.dst v') w') : wpList P ops Q (o :: rest) a w := by
  refine wpList_plain hgd fun K hK => ?_
  unfold Oper.wp execOp
  simp only [ho, resolve, invoke, builtin, Sem.run_bind, Sem.run_pure, Result.andThen_ok, List.map_toArray, List.map_cons, List.map_nil, hs, hx, hr]
  exact hK _ _ h

/-- append of one byte to an owned row of bytes. -/
theorem wpList_append_byte {ops : Array Oper} {Q : Exit → Act → World → Prop} {rest : List Oper} {o : Oper} {a : Act} {B : Nat} {R : HP} [Loc B R] {w : World} {v : Value} {l : List Int} {b : Int} (hgd : o.guard = none) (s x : Operand)
    (ho : o.op = .call { callee := .builtin .append, args := #[s, x], argTypes := #[38, 38] }) (hty : o.type = 38) (hs : a.eval s = v) (hx : a.eval x = .slice (some ⟨w.heap.size, 0, none⟩) 1 1)
    (hB : B ≤ w.heap.size) (h : Own B (Rw 5 1 v l.length (bytesV l) * R) w) (hl : l.length + 1 ≤ 140737488355328)
    (K : ∀ g cap w', Own B (Rw 5 1 (.slice (some ⟨g, 0, none⟩) (l.length + 1) cap) (l ++ [b]).length (bytesV (l ++ [b])) * R) w' → Below B w w' → wpList Try.prog ops Q rest (a.put o.dst (.slice (some ⟨g, 0, none⟩) (l.length + 1) cap)) w') : wpList Try.prog ops Q (o :: rest) a (w.alloc (.cells #[.int .u8 b] 5)) := by
  obtain ⟨g, cap, w', hr, h1, h2⟩ := bytes_append hB h b hl
  exact wpList_append_run hgd s x 38 ho hs hx (by rw [hty]; exact hr) (K g cap w' h1 h2)

/-- 'append(x, b)' of one byte: the byte in an array of its own, and the append. -/
theorem wpList_append1 {ops : Array Oper} {Q : Exit → Act → World → Prop} {rest : List Oper} {o1 o2 : Oper} {a : Act} {B : Nat} {R : HP} [Loc B R] {w : World} {v : Value} {l : List Int} {b : Int} (hg1 : o1.guard = none) (hg2 : o2.guard = none) (k s : Operand) (d : Nat)
    (ho1 : o1.op = .buildSlice 38 1 #[(0, k)]) (hd : o1.dst = some d) (ho2 : o2.op = .call { callee := .builtin .append, args := #[s, .tmp d], argTypes := #[38, 38] }) (hty : o2.type = 38)
    (hk : a.eval k = .int .u8 b) (hd2 : d < a.tmps.size) (hs : (a.put (some d) (.slice (some ⟨w.heap.size, 0, none⟩) 1 1)).eval s = v)
    (hB : B ≤ w.heap.size) (h : Own B (Rw 5 1 v l.length (bytesV l) * R) w) (hl : l.length + 1 ≤ 140737488355328)
    (K : ∀ g cap w', Own B (Rw 5 1 (.slice (some ⟨g, 0, none⟩) (l.length + 1) cap) (l ++ [b]).length (bytesV (l ++ [b])) * R) w' → Below B w w' → wpList Try.prog ops Q rest ((a.put (some d) (.slice (some ⟨w.heap.size, 0, none⟩) 1 1)).put o2.dst (.slice (some ⟨g, 0, none⟩) (l.length + 1) cap)) w') : wpList Try.prog ops Q (o1 :: o2 :: rest) a w := by
  refine wpList_plain hg1 fun K1 hK1 => ?_
  have hrun : (execOp a.eval o1).run Try.prog w = .ok (.value (.slice (some ⟨w.heap.size, 0, none⟩) 1 1)) (w.alloc (.cells #[.int .u8 b] 5)) := by
    unfold execOp
    simp only [ho1, List.map_toArray, List.map_cons, List.map_nil, hk]
    go_simp
  unfold Oper.wp
  rw [hrun]
  show K1 _ _
  refine hK1 _ _ ?_
  rw [hd]
  exact wpList_append_byte hg2 s (.tmp d) ho2 hty hs (by simp [Act.eval, Act.put, hd2]) hB h hl K

theorem and_mask32 (x : Int) (h0 : 0 ≤ x) (h1 : x < 18446744073709551616) : bits .and .u64 x 4294967295 = x % 4294967296 := by
  rw [u64_and x 4294967295 h0 h1 (by omega) (by omega)]
  have := Nat.and_two_pow_sub_one_eq_mod x.toNat 32
  simp only [Nat.reducePow, Nat.reduceSub] at this
  show ((x.toNat &&& 4294967295 : Nat) : Int) = _
  rw [this]
  omega

def carryOf (s : WS) : Int := s.low / 4294967296
def shiftS (s : WS) : WS :=
  if s.low < 4278190080 ∨ 4294967295 < s.low then
    { s with out := (if s.sm then s.out ++ [(s.wait + carryOf s) % 256] else s.out) ++ List.replicate s.full.toNat ((255 + carryOf s) % 256), wait := (s.low / 16777216) % 256, sm := true, full := 0, low := (s.low * 256) % 4294967296 }
  else { s with full := s.full + 1, low := (s.low * 256) % 4294967296 }

/-- The numbers of a writer's state lie where they must. -/
structure WS.ok (s : WS) : Prop where
  low0 : 0 ≤ s.low
  low1 : s.low < 8589934592
  width0 : 0 ≤ s.width
  width1 : s.width < 4294967296
  wait0 : 0 ≤ s.wait
  wait1 : s.wait ≤ 255
  full0 : 0 ≤ s.full
  size : (s.out.length : Int) + s.full ≤ 1099511627776
end Go.Proofs.Ytnoofgcjhoiboaa
