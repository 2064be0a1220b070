/- Package entry: the walks over the entries of files, and over their paths. -/
import Derived.Test.YtfppancidgamjaaDoorE2
namespace Go.Proofs.YtfppancidgamjaaDoor
set_option linter.unusedVariables false
set_option linter.unusedSimpArgs false
open Go.RowKit

def bytesU (l : List UInt8) : List Value := l.map fun x => Value.int .u8 (x.toNat : Int)
/-- A file. -/
structure Fi where
  path : List UInt8
  kind : Int
  mode : Int
  time : Int
  data : List UInt8
  tgt : List UInt8
deriving DecidableEq
instance : Inhabited Fi := ⟨⟨[], 0, 0, 0, [], []⟩⟩
/-- A file with the slice that its data lie in. -/
def fiL (x : Fi × Value) : List Value := [.string (str x.1.path), .int .i64 x.1.kind, .int .i64 x.1.mode, .int .i64 x.1.time, x.2, .string (str x.1.tgt)]
/-- Files, as they lie. -/
def RdF (w : World) (A : Option Addr) (l : List (Fi × Value)) : Prop := RdA 6 fiL w A l ∧ ∀ x ∈ l, Rd w x.2 (bytesU x.1.data)
theorem RdF.below {w w' : World} {A : Option Addr} {l : List (Fi × Value)} (h : RdF w A l) (hb : Below w.heap.size w w') : RdF w' A l := ⟨h.1.below hb, fun x hx => (h.2 x hx).below hb⟩
theorem RdF.get {w : World} {A : Option Addr} {l : List (Fi × Value)} (h : RdF w A l) (i : Nat) (hi : i < l.length) : ∃ (Ad : Option Addr) (cd : Nat), l[i].2 = .slice Ad l[i].1.data.length cd := by
  obtain ⟨Ad, cd, hv, _⟩ := h.2 _ (List.getElem_mem hi)
  exact ⟨Ad, cd, by rw [hv]; simp [bytesU]⟩

/-- The entries of files, from a place on. -/
def entsFrom : Int → List Fi → List En
  | _, [] => []
  | at_, f :: l => ⟨f.path, f.kind, f.mode, f.time, f.tgt, at_, f.data.length⟩ :: entsFrom (at_ + f.data.length) l
def ents (l : List Fi) : List En := entsFrom 0 l
def dataLen (l : List Fi) : Nat := (l.map fun f => f.data.length).sum
theorem entsFrom_length : ∀ (a : Int) (l : List Fi), (entsFrom a l).length = l.length
  | _, [] => rfl
  | a, f :: l => by simp [entsFrom, entsFrom_length]
theorem entsFrom_snoc : ∀ (a : Int) (l : List Fi) (f : Fi), entsFrom a (l ++ [f]) = entsFrom a l ++ [⟨f.path, f.kind, f.mode, f.time, f.tgt, a + (dataLen l : Int), f.data.length⟩]
  | a, [], f => by simp [entsFrom, dataLen]
  | a, g :: l, f => by
    rw [List.cons_append]
    unfold entsFrom
    rw [entsFrom_snoc, List.cons_append]
    congr 4
    unfold dataLen
    simp
    omega
theorem dataLen_snoc (l : List Fi) (f : Fi) : dataLen (l ++ [f]) = dataLen l + f.data.length := by simp [dataLen]
theorem dataLen_take (l : List Fi) (i : Nat) : dataLen (l.take i) ≤ dataLen l := by
  have : dataLen l = dataLen (l.take i) + dataLen (l.drop i) := by
    conv => lhs; rw [← List.take_append_drop i l]
    unfold dataLen
    rw [List.map_append, List.sum_append]
  omega

theorem infoEn : (Tryd.prog.info? 30).map (fun i => (i.zero, i.size, i.bytes)) = some (some (.agg #[.string ByteArray.empty, .int .i64 0, .int .i64 0, .int .i64 0, .string ByteArray.empty, .int .i64 0, .int .i64 0]), 7, 72) := by kernel_rfl

set_option maxRecDepth 100000 in
set_option maxHeartbeats 3200000 in
theorem entries_any (A : Option Addr) (c : Nat) (l : List (Fi × Value)) (hl : l.length ≤ 4294967296) (hs : dataLen (l.map (·.1)) ≤ 4294967296) (w : World) (hr : RdF w A l) :
    Calls Tryd.prog 32 #[.slice A l.length c] w (RetA 7 enL w (ents (l.map (·.1)))) := by
  obtain ⟨i0, hi, hz0, hz1, hz2⟩ := info_parts infoEn
  have Hi0 := Lib.hid (And.intro hi (And.intro hz0 (And.intro hz1 hz2)))
  have hO := (Own.start w.heap.size w).rw_nil 30 7
  have hb := Below.refl w.heap.size w
  have Hr := Lib.hid (fun w1 (b : Below w.heap.size w w1) => hr.below b)
  have Hd := Lib.hid (fun i => dataLen_take (l.map (·.1)) i)
  have Hs := Lib.hid hs
  have n1 : (l.length : Int) ≤ 4294967296 := by omega
  clear hr hi hz0 hz1 hz2 hs
  go_enter Tryd.func32, Tryd.ntmps32
  go_wp2
  go_loopg [3, 4, 9] l.length (fun k v a u wr => ∃ (i : Nat) (A' : Option Addr) (c' : Nat), k + i = l.length ∧ u = .int .i64 i ∧ a = .int .i64 (dataLen ((l.take i).map (·.1)) : Int) ∧ v = .slice A' i c' ∧ Below w.heap.size w wr ∧ Own w.heap.size (Rw 30 7 (.slice A' i c') i (flat enL (ents ((l.take i).map (·.1)))) * Emp) wr)
  case atStart => exact ⟨0, none, 0, by omega, rfl, rfl, rfl, hb, hO⟩
  case round =>
    clear hb hO
    obtain ⟨i, A', c', hk, rfl, rfl, rfl, hb, ho⟩ := hrel
    by_cases hlt : (i : Int) < (l.length : Int)
    · obtain ⟨j, rfl⟩ : ∃ j, gk = j + 1 := ⟨gk - 1, by omega⟩
      have hil : i < l.length := by omega
      have i0' : (0 : Int) ≤ (i : Int) := by omega
      obtain ⟨b, off, rfl, q, d⟩ := (Hr.out _ hb).1 i hil
      obtain ⟨Ad, cd, hdv⟩ := (Hr.out _ hb).get i hil
      have Hk := Lib.hid hk
      have htk : (l.take (i + 1)).map (·.1) = (l.take i).map (·.1) ++ [l[i].1] := by rw [List.take_succ_eq_append_getElem hil, List.map_append]; rfl
      have hsn : ents ((l.take (i + 1)).map (·.1)) = ents ((l.take i).map (·.1)) ++ [⟨l[i].1.path, l[i].1.kind, l[i].1.mode, l[i].1.time, l[i].1.tgt, (dataLen ((l.take i).map (·.1)) : Int), l[i].1.data.length⟩] := by
        rw [htk]; unfold ents; rw [entsFrom_snoc, Int.zero_add]
      have hdl : dataLen ((l.take (i + 1)).map (·.1)) = dataLen ((l.take i).map (·.1)) + l[i].1.data.length := by rw [htk, dataLen_snoc]
      have hle := Hd.out (i + 1)
      rw [← List.map_take, hdl] at hle
      have hle := Nat.le_trans hle Hs.out
      generalize dataLen ((l.take i).map (·.1)) = D at *
      have Hsn := Lib.hid hsn
      have Hdl := Lib.hid hdl
      clear htk hsn hdl hk
      generalize ents ((l.take i).map (·.1)) = E at *
      generalize l[i] = x at *
      obtain ⟨⟨path, kind, mode, time, data, tgt⟩, dv⟩ := x
      simp only at hdv hle Hsn Hdl
      subst hdv
      generalize data.length = dn at *
      have d0 := d 0 _ rfl
      have d1 := d 1 _ rfl
      have d2 := d 2 _ rfl
      have d3 := d 3 _ rfl
      have d4 := d 4 _ rfl
      have d5 := d 5 _ rfl
      simp only [Nat.add_zero] at d0 d1 d2 d3 d4 d5
      clear d
      have D0 : (D : Int) ≤ 4294967296 := by omega
      have D1 : (dn : Int) ≤ 4294967296 := by omega
      have o1 := (ho.new hb.size 41 #[.string (str path), .int .i64 kind, .int .i64 mode, .int .i64 time, .slice Ad dn cd, .string (str tgt)]).cast (sep_left_comm _ _ _)
      have hb1 := hb.alloc hb.size (.cells #[.string (str path), .int .i64 kind, .int .i64 mode, .int .i64 time, .slice Ad dn cd, .string (str tgt)] 41)
      obtain ⟨g2, cap2, w2, hrun, o2, b2⟩ := row_append (P := Tryd.prog) hb1.size Tryd.underlying25 Hi0.out.1 Hi0.out.2.1 Hi0.out.2.2.1 Hi0.out.2.2.2 rfl (by omega) o1 #[.string (str path), .int .i64 kind, .int .i64 mode, .int .i64 time, .string (str tgt), .int .i64 D, .int .i64 dn] rfl
        (by intro u hu; simp at hu; rcases hu with rfl | rfl | rfl | rfl | rfl | rfl | rfl <;> rfl) (by omega) (by omega)
      rw [World.size_alloc] at hrun
      have Hrun := Lib.hid hrun
      have hb2 := hb1.trans b2
      have k4 : w2.cell? ⟨wr.heap.size, 4, none⟩ = some (.slice Ad dn cd) := (o2.cast (sep_left_comm _ _ _)).cell 4
      have o3 := (o2.cast (sep_left_comm _ _ _)).drop
      clear hrun o1 hb1 hb ho b2 o2
      go_wp2_with (at_builtin; refine wpList_append_at rfl (.tmp 13) (.tmp 29) 25 rfl rfl rfl Hrun.out ?_)
      go_roundg j
      case measure => omega
      case rel => exact ⟨i + 1, some ⟨g2, 0, none⟩, cap2, by have := Hk.out; omega, rfl, congrArg (Value.int .i64) (by rw [Hdl.out]; omega), rfl, hb2, by rw [Hsn.out, flat_snoc]; exact o3⟩
    · obtain rfl : i = l.length := by omega
      rw [List.take_length] at ho
      go_wp2
      go_ret
      exact RetA.mk rfl (by unfold ents; rw [entsFrom_length]; simp) ho.cap (ho.rdA enL_len (by unfold ents; rw [entsFrom_length]; simp)) hb
end Go.Proofs.YtfppancidgamjaaDoor
