/- Texts of one proof, merged: XG5 XOn XO9 XOd XTwl XOe XG8 XG9. -/
import Derived.Test.YtmppagiaonbggaaDoorWf
import Derived.Lib.AppendZerosOnto
import Derived.Laws.IdiomStrings
import Derived.Laws.OwnMore
/- The walks over slices.Grow and slices.Concat at bytes, Join and Stream of package source. -/
namespace Go.Proofs.YtmppagiaonbggaaDoor
set_option linter.unusedVariables false
set_option linter.unusedSimpArgs false
set_option maxRecDepth 100000
open Go.RowKit

theorem Own.rdP {B n c : Nat} {R : HP} {w : World} {e : TypeId} {A : Option Addr} {xs : List (Value × List UInt8)} (hn : n = xs.length) (h : Own B (Rw e 1 (.slice A n c) n (xs.map (·.1)) * R) w) (hx : ∀ x ∈ xs, Rd w x.1 (bytesU x.2)) : RdP w A xs := by
  refine ⟨fun j hj => ?_, hx⟩
  rcases h.row.2 with ⟨hv, h0⟩ | ⟨g, cap, cur, hv, _, hg, h1, h2, h3, h4⟩
  · omega
  · injection hv with e1 _ _
    refine ⟨g, 0, e1, ?_⟩
    rw [cell_of_row _ _ _ _ _ _ hg, Nat.zero_add, ← Array.getElem?_toList]
    have : (cur.toList.take (n * 1))[j]? = some xs[j].1 := by rw [h4]; simp [hj]
    rw [List.getElem?_take] at this
    split at this
    · exact this
    · cases this

set_option maxHeartbeats 1600000 in
theorem grow_any (n : Nat) (hn : n ≤ 1000000000) (w : World) : Calls Tryd.prog 61 #[.slice none 0 0, .int .i64 (n : Int)] w (RetB w []) := by
  have n1 : (n : Int) ≤ 1000000000 := by omega
  by_cases h0 : n = 0
  · subst h0
    go_enter Tryd.func61, Tryd.ntmps61
    go_wp2
    go_ret
    exact ⟨_, rfl, World.ownsRow_nil w _ _ _, Below.refl _ _⟩
  · obtain ⟨i0, hi, hz0, hz1, hz2⟩ := info_parts infoU8
    have hrun := fun ty => Lib.run_append_grow_zeros (P := Tryd.prog) w 32 3 ty 5 i0 _ .i64 .i64 Tryd.underlying32 Tryd.underlying3 hi hz0 none 0 0 [] (run_firstCells_none w.drew i0.size 0 0 0) n (by omega) (by omega) (by omega) (by omega) (by rw [hz2]; omega)
      (by rw [hz2]; exact growslice_fits (by omega) (by omega))
    rw [Nat.zero_add] at hrun
    have hge := grownCap_ge w n 0 5
    have hle := grownCap_le_maxLen w n 0 5 (by unfold maxLen; omega)
    generalize grownCap w n 0 5 = G at *
    have hsz : ([].toArray ++ Builtin.zeroCells (Value.int .u8 0).cells n ++ Builtin.zeroCells (Value.int .u8 0).cells (G - n)).size = G * 1 := by
      simp [Builtin.zeroCells, Value.cells]; omega
    generalize [].toArray ++ Builtin.zeroCells (Value.int .u8 0).cells n ++ Builtin.zeroCells (Value.int .u8 0).cells (G - n) = cur at *
    have hfin : RetB w [] (.returned (.slice (some ⟨w.heap.size, 0, none⟩) 0 G)) (w.drew.alloc (.cells cur 5)) := by
      have := heap_alloc_new w.drew (.cells cur 5)
      refine ⟨_, rfl, ⟨by simp [bytesU], .inr ⟨w.heap.size, G, cur, rfl, Nat.le_refl _, this, Nat.zero_le _, hle, hsz, by simp [bytesU]⟩⟩, ?_⟩
      exact ((Below.refl w.heap.size w).drew).alloc (Nat.le_refl _) _
    have Hrun := Lib.hid hrun
    have Hfin := Lib.hid hfin
    have n2 : (0 : Int) < (n : Int) := by omega
    have G1 : (G : Int) ≤ 9223372036854775807 := by unfold maxLen at hle; omega
    clear hrun hfin hge hle hsz hi hz0 hz1 hz2
    go_enter Tryd.func61, Tryd.ntmps61
    go_wp2_with (at_builtin; refine Lib.wpList_append_run _ rfl _ _ _ _ rfl _ _ rfl rfl _ _ (Hrun.out _) ?_)
    go_ret
    exact Hfin.out

set_option maxHeartbeats 3200000 in
theorem concat_any (A : Option Addr) (c : Nat) (vs : List (Value × List UInt8)) (hn : vs.length ≤ 1000000) (hl : (joinP vs).length ≤ 1000000000) (w : World) (hr : RdP w A vs) :
    Calls Tryd.prog 39 #[.slice A vs.length c] w (RetB w (joinP vs)) := by
  have Hr := Lib.hid (fun W (h : Below w.heap.size w W) => hr.below h)
  have n1 : (vs.length : Int) ≤ 1000000 := by omega
  have Hl := Lib.hid hl
  clear hr hl
  go_enter Tryd.func39, Tryd.ntmps39
  go_wp2
  go_loopg [3, 11] vs.length (fun kk v3 v11 wr => ∃ (i : Nat), kk + i = vs.length ∧ v11 = .int .i64 (i : Int) ∧ v3 = .int .i64 ((joinP (vs.take i)).length : Int) ∧ wr = w)
  case atStart => exact ⟨0, by omega, rfl, rfl, rfl⟩
  case round =>
    obtain ⟨i, hk, rfl, rfl, hw⟩ := hrel
    have hw := hw.symm
    subst hw
    have i0 : (0 : Int) ≤ (i : Int) := by omega
    by_cases hlt : (i : Int) < (vs.length : Int)
    · obtain ⟨j, rfl⟩ : ∃ j, gk = j + 1 := ⟨gk - 1, by omega⟩
      have hil : i < vs.length := by omega
      obtain ⟨b, off, rfl, hc⟩ := (Hr.out w (Below.refl _ _)).1 i hil
      have hrd := (Hr.out w (Below.refl _ _)).2 _ (List.getElem_mem hil)
      have hjt := joinP_take vs i hil
      have hle := joinP_le vs (i + 1)
      have hlen := Hl.out
      rw [hjt, List.length_append] at hle
      obtain ⟨Av, cv, hv⟩ : ∃ A c, vs[i].1 = .slice A vs[i].2.length c := by obtain ⟨A, c, h, _⟩ := hrd; exact ⟨A, c, by rw [h, bytesU_length]⟩
      rw [hv] at hc
      have He := Lib.hid (show (joinP (vs.take (i + 1))).length = (joinP (vs.take i)).length + vs[i].2.length by rw [hjt, List.length_append])
      have Hk := Lib.hid hk
      clear hrd hjt hv hk
      generalize vs[i].2.length = m at *
      generalize (joinP (vs.take i)).length = s at *
      have s1 : (s : Int) ≤ 1000000000 := by omega
      have m1 : (m : Int) ≤ 1000000000 := by omega
      obtain ⟨t, ht⟩ : ∃ t, s + m = t := ⟨_, rfl⟩
      have e1 : (s : Int) + (m : Int) = (t : Int) := by omega
      have t1 : (t : Int) ≤ 1000000000 := by omega
      have t0 : (0 : Int) ≤ (t : Int) := by omega
      clear hle hlen
      go_wp2
      go_roundg j
      case measure => omega
      case rel => exact ⟨i + 1, by have := Hk.out; omega, rfl, by rw [He.out, ht], rfl⟩
    · obtain rfl : i = vs.length := by omega
      have hlen := Hl.out
      have HG := Lib.hid (grow_any (joinP vs).length hlen w)
      rw [List.take_length]
      generalize hL : (joinP vs).length = L at *
      have HL := Lib.hid hL
      clear hk hlen hL
      go_wp2_with fail
      refine HG.out.mono ?_
      rintro e w1 ⟨v1, rfl, ho1, b1⟩
      have o1 : Own w.heap.size (Rw 5 1 v1 ([] : List UInt8).length (bytesU []) * Emp) w1 := Own.fresh (Nat.le_refl _) (Own.start _ _) ho1 b1
      obtain ⟨A1, c1, rfl⟩ := o1.row_n
      clear ho1 HG
      go_wp2
      generalize hX0 : w.heap.size = X0 at *
      go_loopg [6, 27] vs.length (fun kk v3 v11 wr => ∃ (i : Nat) (out : List UInt8) (A' : Option Addr) (c' : Nat), kk + i = vs.length ∧ v11 = .int .i64 (i : Int) ∧ v3 = .slice A' out.length c' ∧ Hid (out = joinP (vs.take i)) ∧ Own X0 (Rw 5 1 (.slice A' out.length c') out.length (bytesU out) * Emp) wr ∧ Below X0 w wr)
      case atStart => exact ⟨0, [], A1, c1, by omega, rfl, rfl, Lib.hid rfl, o1, b1⟩
      case round =>
        clear o1 b1
        obtain ⟨i, out, A', c', hk, rfl, rfl, he, ho, hb⟩ := hrel
        have i0 : (0 : Int) ≤ (i : Int) := by omega
        have Bw : X0 ≤ wr.heap.size := by rw [← hX0]; exact hb.size
        by_cases hlt : (i : Int) < (vs.length : Int)
        · obtain ⟨j, rfl⟩ : ∃ j, gk = j + 1 := ⟨gk - 1, by omega⟩
          have hil : i < vs.length := by omega
          obtain ⟨b, off, rfl, hc⟩ := (Hr.out wr hb).1 i hil
          have hrd := (Hr.out wr hb).2 _ (List.getElem_mem hil)
          have hjt := joinP_take vs i hil
          have hle := joinP_le vs (i + 1)
          have hlen : (joinP vs).length ≤ 1000000000 := by rw [HL.out]; exact Hl.out
          rw [hjt, ← he.out, List.length_append] at hle
          obtain ⟨Av, cv, hv⟩ : ∃ A c, vs[i].1 = .slice A vs[i].2.length c := by obtain ⟨A, c, h, _⟩ := hrd; exact ⟨A, c, by rw [h, bytesU_length]⟩
          rw [hv] at hc hrd
          obtain ⟨v', w', hrun, o2, b2⟩ := byte_append Bw ho hrd (by omega)
          have Hrun := Lib.hid hrun
          have hb2 := hb.trans b2
          have He := Lib.hid (show out ++ vs[i].2 = joinP (vs.take (i + 1)) by rw [hjt, ← he.out])
          have Hk := Lib.hid hk
          obtain ⟨A2, c2, rfl⟩ := o2.row_n
          clear hrun b2 hrd hjt hle hlen hv he ho hb hk
          generalize vs[i].2 = xs at *
          generalize out ++ xs = out2 at *
          go_wp2_with (at_builtin; refine wpList_append_run rfl (.tmp 31) (.tmp 32) 32 rfl rfl rfl Hrun.out ?_)
          go_roundg j
          case measure => omega
          case rel => exact ⟨i + 1, out2, _, _, by have := Hk.out; omega, rfl, rfl, He, o2, hb2⟩
        · have Hfin : Hid (out = joinP vs) := Lib.hid (by rw [he.out, List.take_of_length_le (by omega)])
          clear he hk
          go_wp2
          go_ret
          exact RetB.mk rfl rfl Hfin.out hX0.symm ho (hX0 ▸ hb)

theorem join_any (A : Option Addr) (c : Nat) (vs : List (Value × List UInt8)) (hn : vs.length ≤ 1000000) (hl : (joinP vs).length ≤ 1000000000) (w : World) (hr : RdP w A vs) :
    Calls Tryd.prog 23 #[.slice A vs.length c] w (RetB w (joinP vs)) := by
  have C := concat_any A c vs hn hl w hr
  generalize joinP vs = out at *
  clear hr
  go_enter Tryd.func23, Tryd.ntmps23
  go_wp2_with fail
  refine C.mono ?_
  rintro e w1 ⟨v1, rfl, ho1, b1⟩
  go_wp2
  go_ret
  exact ⟨v1, rfl, ho1, b1⟩

theorem infoSl : (Tryd.prog.info? 32).map (fun i => (i.zero, i.size, i.bytes)) = some (some (.slice none 0 0), 1, 24) := by kernel_rfl
def dataL (l : List Fi) : List UInt8 := l.flatMap (·.data)
theorem dataL_length (l : List Fi) : (dataL l).length = dataLen l := by
  unfold dataL dataLen; rw [List.length_flatMap]
def streamP (l : List Fi) : List UInt8 := if whyE (ents l) = 0 then dataL l else []
def partsF (l : List (Fi × Value)) : List (Value × List UInt8) := l.map fun x => (x.2, x.1.data)
theorem joinP_partsF (l : List (Fi × Value)) : joinP (partsF l) = dataL (l.map (·.1)) := by
  unfold joinP partsF dataL; rw [List.flatMap_map, List.flatMap_map]

set_option maxRecDepth 100000 in
set_option maxHeartbeats 3200000 in
theorem stream_any (A : Option Addr) (c : Nat) (l : List (Fi × Value)) (hl : l.length ≤ 1000000) (hs : dataLen (l.map (·.1)) ≤ 1000000000) (ok : ∀ x ∈ l, x.1.ok) (w : World) (h : Sh w) (hr : RdF w A l) :
    Calls Tryd.prog 14 #[.slice A l.length c] w (RetB w (streamP (l.map (·.1)))) := by
  have R := rightE_any A c l (by omega) (by omega) ok w h hr
  by_cases hz : whyE (ents (l.map (·.1))) = 0
  · obtain ⟨i0, hi, hz0, hz1, hz2⟩ := info_parts infoSl
    have Hi0 := Lib.hid (And.intro hi (And.intro hz0 (And.intro hz1 hz2)))
    rw [hz] at R
    have HR := Lib.hid R
    have hst : streamP (l.map (·.1)) = joinP (partsF l) := by unfold streamP; rw [if_pos hz, joinP_partsF]
    rw [hst]
    have Hl := Lib.hid (show (joinP (partsF l)).length ≤ 1000000000 by rw [joinP_partsF, dataL_length]; exact hs)
    have Hr := Lib.hid (fun w1 (b : Below w.heap.size w w1) => hr.below b)
    have n1 : (l.length : Int) ≤ 1000000 := by omega
    clear hr hi hz0 hz1 hz2 hs hst hz R h ok
    go_enter Tryd.func14, Tryd.ntmps14
    go_wp2_with fail
    refine HR.out.mono ?_
    rintro e w1 ⟨rfl, hb⟩
    have hO := (Own.start w.heap.size w1).rw_nil 32 1
    clear HR
    go_wp2
    go_loopg [3, 11] l.length (fun k v u wr => ∃ (i : Nat) (A' : Option Addr) (c' : Nat), k + i = l.length ∧ u = .int .i64 i ∧ v = .slice A' i c' ∧ Below w.heap.size w wr ∧ Own w.heap.size (Rw 32 1 (.slice A' i c') i ((partsF (l.take i)).map (·.1)) * Emp) wr)
    case atStart => exact ⟨0, none, 0, by omega, rfl, rfl, hb, hO⟩
    case round =>
      clear hb hO
      obtain ⟨i, A', c', hk, rfl, rfl, hb, ho⟩ := hrel
      by_cases hlt : (i : Int) < (l.length : Int)
      · obtain ⟨j, rfl⟩ : ∃ j, gk = j + 1 := ⟨gk - 1, by omega⟩
        have hil : i < l.length := by omega
        have i0' : (0 : Int) ≤ (i : Int) := by omega
        obtain ⟨b, off, rfl, q, d⟩ := (Hr.out _ hb).1 i hil
        obtain ⟨Ad, cd, hdv⟩ := (Hr.out _ hb).get i hil
        have Hk := Lib.hid hk
        have Hsn := Lib.hid (show (partsF (l.take (i + 1))).map (·.1) = (partsF (l.take i)).map (·.1) ++ [l[i].2] by rw [List.take_succ_eq_append_getElem hil]; simp only [partsF, List.map_append, List.map_cons, List.map_nil])
        clear hk
        generalize l[i] = x at *
        generalize (partsF (l.take i)).map (·.1) = E at *
        obtain ⟨⟨path, kind, mode, time, data, tgt⟩, dv⟩ := x
        simp only at hdv Hsn
        subst hdv
        generalize data.length = dn at *
        have d0 := d 0 _ rfl
        have d1 := d 1 _ rfl
        have d2 := d 2 _ rfl
        have d3 := d 3 _ rfl
        have d4 := d 4 _ rfl
        have d5 := d 5 _ rfl
        simp only [Nat.add_zero] at d0 d1 d2 d3 d4 d5
        clear d
        have o1 := (ho.new hb.size 57 #[.string (str path), .int .i64 kind, .int .i64 mode, .int .i64 time, .slice Ad dn cd, .string (str tgt)]).cast (sep_left_comm _ _ _)
        have hb1 := hb.alloc hb.size (.cells #[.string (str path), .int .i64 kind, .int .i64 mode, .int .i64 time, .slice Ad dn cd, .string (str tgt)] 57)
        have k4 : (wr.alloc (.cells #[.string (str path), .int .i64 kind, .int .i64 mode, .int .i64 time, .slice Ad dn cd, .string (str tgt)] 57)).cell? ⟨wr.heap.size, 4, none⟩ = some (.slice Ad dn cd) := (o1.cast (sep_left_comm _ _ _)).cell 4
        obtain ⟨g2, cap2, w2, hrun, o2, b2⟩ := row_append (P := Tryd.prog) hb1.size Tryd.underlying47 Hi0.out.1 Hi0.out.2.1 Hi0.out.2.2.1 Hi0.out.2.2.2 rfl (by omega) o1 #[.slice Ad dn cd] rfl
          (by intro u hu; simp at hu; rcases hu with rfl; rfl) (by omega) (by omega)
        rw [World.size_alloc] at hrun
        have Hrun := Lib.hid hrun
        have hb2 := hb1.trans b2
        have o3 := (o2.cast (sep_left_comm _ _ _)).drop
        clear hrun o1 hb1 hb ho b2 o2
        go_wp2_with (at_builtin; refine wpList_append_at rfl (.tmp 15) (.tmp 18) 47 rfl rfl rfl Hrun.out ?_)
        go_roundg j
        case measure => omega
        case rel => exact ⟨i + 1, some ⟨g2, 0, none⟩, cap2, by have := Hk.out; omega, rfl, rfl, hb2, by rw [Hsn.out]; exact o3⟩
      · obtain rfl : i = l.length := by omega
        rw [List.take_length] at ho
        have hpl : (partsF l).length = l.length := by simp [partsF]
        have hrp : RdP wr A' (partsF l) := ho.rdP hpl.symm (by
          intro x hx
          obtain ⟨y, hy, rfl⟩ := List.mem_map.1 hx
          exact (Hr.out _ hb).2 y hy)
        have J := join_any A' c' (partsF l) (by omega) Hl.out wr hrp
        rw [hpl] at J
        generalize joinP (partsF l) = out at *
        clear hrp
        go_wp2_with fail
        refine J.mono ?_
        rintro e w3 ⟨v1, rfl, ho1, b1⟩
        have o4 := Own.fresh hb.size (Own.start _ _) ho1 b1
        have hb4 := hb.trans (b1.mono hb.size)
        go_wp2
        go_ret
        exact RetB.mk rfl rfl rfl rfl o4 hb4
  · have hz' : (whyE (ents (l.map (·.1))) == 0) = false := by simpa using hz
    rw [hz'] at R
    have hst : streamP (l.map (·.1)) = [] := by unfold streamP; rw [if_neg hz]
    rw [hst]
    clear hr hs hst hz hz' h ok
    go_enter Tryd.func14, Tryd.ntmps14
    go_wp2_with fail
    refine R.mono ?_
    rintro e w1 ⟨rfl, hb⟩
    go_wp2
    go_ret
    exact ⟨_, rfl, World.ownsRow_nil _ _ _ _, hb⟩
end Go.Proofs.YtmppagiaonbggaaDoor

/- The walk over the reference's Number. -/
namespace Go.Proofs.YtmppagiaonbggaaDoor
set_option linter.unusedVariables false
set_option linter.unusedSimpArgs false
set_option maxRecDepth 100000
open Go.RowKit

set_option maxRecDepth 100000 in
set_option maxHeartbeats 1600000 in
theorem refnum_in : ∀ (m : Nat), m ≤ 1099511627775 → ∀ (w : World), Calls Tryd.prog 51 #[.int .i64 (m : Int)] w (RetB w (onum m)) := by
  intro m
  induction m using Nat.strongRecOn with
  | _ m ih =>
    intro hm w
    by_cases hs : m < 128
    · have hc8 : (UInt8.ofNat m).toNat = m := u8_toNat _ (by omega)
      have hs' : (m : Int) < 128 := by omega
      have o1 : Own w.heap.size (Rw 5 1 (.slice (some ⟨w.heap.size, 0, none⟩) 1 1) [UInt8.ofNat m].length (bytesU [UInt8.ofNat m]) * Emp) (w.alloc (.cells #[.int .u8 (m : Int)] 5)) := by
        have := ((Own.start w.heap.size w).new (Nat.le_refl _) 5 #[.int .u8 (m : Int)]).rw_of_bk (size := 1) (n := 1) rfl (by unfold maxLen; decide)
        have e : bytesU [UInt8.ofNat m] = [.int .u8 (m : Int)] := by unfold bytesU; rw [List.map_cons, List.map_nil, hc8]
        rw [e]
        exact this
      have b1 := (Below.refl w.heap.size w).alloc (Nat.le_refl _) (.cells #[.int .u8 (m : Int)] 5)
      rw [onum_small hs]
      clear ih hc8 hs
      go_enter Tryd.func51, Tryd.ntmps51
      go_wp2
      go_ret
      exact RetB.mk rfl rfl rfl rfl o1 b1
    · have hs' : ¬ (m : Int) < 128 := by omega
      have hc8 : (UInt8.ofNat (m % 128 + 128)).toNat = m % 128 + 128 := u8_toNat _ (by omega)
      have o1 : Own w.heap.size (Rw 5 1 (.slice (some ⟨w.heap.size, 0, none⟩) 1 1) [UInt8.ofNat (m % 128 + 128)].length (bytesU [UInt8.ofNat (m % 128 + 128)]) * Emp) (w.alloc (.cells #[.int .u8 ((m % 128 + 128 : Nat) : Int)] 5)) := by
        have := ((Own.start w.heap.size w).new (Nat.le_refl _) 5 #[.int .u8 ((m % 128 + 128 : Nat) : Int)]).rw_of_bk (size := 1) (n := 1) rfl (by unfold maxLen; decide)
        have e : bytesU [UInt8.ofNat (m % 128 + 128)] = [.int .u8 ((m % 128 + 128 : Nat) : Int)] := by unfold bytesU; rw [List.map_cons, List.map_nil, hc8]
        rw [e]
        exact this
      have b1 := (Below.refl w.heap.size w).alloc (Nat.le_refl _) (.cells #[.int .u8 ((m % 128 + 128 : Nat) : Int)] 5)
      have I := ih (m / 128) (by omega) (by omega)
      rw [onum_big hs]
      have h6 := onum_len6 (n := m / 128) (by omega)
      obtain ⟨d, hd⟩ : ∃ d : Nat, d = m / 128 := ⟨_, rfl⟩
      rw [← hd] at I h6 ⊢
      have hq : (m : Int).tdiv 128 = (d : Int) := by rw [Int.tdiv_eq_ediv_of_nonneg (by omega)]; omega
      have hr : 128 + (m : Int) % 128 = ((m % 128 + 128 : Nat) : Int) := by omega
      have d1 : (d : Int) ≤ 1099511627775 := by omega
      have d0 : (0 : Int) ≤ (d : Int) := by omega
      obtain ⟨q, hqq⟩ : ∃ q : Nat, q = m % 128 + 128 := ⟨_, rfl⟩
      rw [← hqq] at hr o1 b1 ⊢
      have q1 : (q : Int) < 256 := by omega
      have q0 : (0 : Int) ≤ (q : Int) := by omega
      generalize UInt8.ofNat q = cq at *
      clear ih hc8 hs hd hqq
      have I2 := fun w1 => I w1
      go_enter Tryd.func51, Tryd.ntmps51
      go_wp2_with fail
      refine (I2 _).mono ?_
      rintro e w2 ⟨v2, rfl, ho2, b2⟩
      have o2 := Own.fresh (by simp) o1 ho2 b2
      have o3 := o2.swap.assoc
      have o4 : Own w.heap.size (Rw 5 1 (.slice (some ⟨w.heap.size, 0, none⟩) 1 1) [cq].length (bytesU [cq]) * (Rw 5 1 v2 (onum d).length (bytesU (onum d)) * Emp)) w2 := o3.cast (by ac_rfl)
      obtain ⟨A2, c2, rfl⟩ := o2.row_n
      obtain ⟨v3, w3, hrun, o5, b3⟩ := byte_append (Nat.le_trans (by simp) b2.size) o4 o2.rd (by simp; omega)
      have Hrun := Lib.hid hrun
      have hb := (b1.trans (b2.mono b1.size)).trans b3
      clear hrun o2 o3 o4 ho2 b1 b2 b3 o1
      go_wp2_with (at_builtin; refine wpList_append_run rfl (.tmp 18) (.tmp 21) 32 rfl rfl rfl Hrun.out ?_)
      go_ret
      exact RetB.mk rfl rfl rfl rfl o5 hb

set_option maxRecDepth 100000 in
theorem refnum_any (n : Int) (w : World) : Calls Tryd.prog 51 #[.int .i64 n] w (RetB w (onumI n)) := by
  have Z := refnum_in
  by_cases h1 : n < 0
  · have hn : onumI n = [UInt8.ofNat 0] := by unfold onumI; rw [if_pos (.inl h1), onum_small (by omega)]
    rw [hn]
    clear hn Z
    have o1 : Own w.heap.size (Rw 5 1 (.slice (some ⟨w.heap.size, 0, none⟩) 1 1) [UInt8.ofNat 0].length (bytesU [UInt8.ofNat 0]) * Emp) (w.alloc (.cells #[.int .u8 0] 5)) :=
      ((Own.start w.heap.size w).new (Nat.le_refl _) 5 #[.int .u8 0]).rw_of_bk (size := 1) (n := 1) rfl (by unfold maxLen; decide)
    have b1 := (Below.refl w.heap.size w).alloc (Nat.le_refl _) (.cells #[.int .u8 0] 5)
    go_enter Tryd.func51, Tryd.ntmps51
    go_wp2
    go_ret
    exact RetB.mk rfl rfl rfl rfl o1 b1
  · by_cases h2 : 1099511627775 < n
    · have hn : onumI n = [UInt8.ofNat 0] := by unfold onumI; rw [if_pos (.inr h2), onum_small (by omega)]
      rw [hn]
      clear hn Z
      have o1 : Own w.heap.size (Rw 5 1 (.slice (some ⟨w.heap.size, 0, none⟩) 1 1) [UInt8.ofNat 0].length (bytesU [UInt8.ofNat 0]) * Emp) (w.alloc (.cells #[.int .u8 0] 5)) :=
        ((Own.start w.heap.size w).new (Nat.le_refl _) 5 #[.int .u8 0]).rw_of_bk (size := 1) (n := 1) rfl (by unfold maxLen; decide)
      have b1 := (Below.refl w.heap.size w).alloc (Nat.le_refl _) (.cells #[.int .u8 0] 5)
      go_enter Tryd.func51, Tryd.ntmps51
      go_wp2
      go_ret
      exact RetB.mk rfl rfl rfl rfl o1 b1
    · have hn : onumI n = onum n.toNat := by unfold onumI; rw [if_neg (by omega)]
      obtain ⟨m, rfl⟩ : ∃ m : Nat, n = (m : Int) := ⟨n.toNat, by omega⟩
      rw [hn, Int.toNat_natCast]
      exact Z m (by omega) w
end Go.Proofs.YtmppagiaonbggaaDoor

/- The walks over the reference's numbers and bytes, and over its bytes of entries. -/
namespace Go.Proofs.YtmppagiaonbggaaDoor
set_option linter.unusedVariables false
set_option linter.unusedSimpArgs false
set_option maxRecDepth 100000
open Go.RowKit

/-- '[]byte(s)'. -/
theorem conv_bytes (w : World) (l : List UInt8) : ∃ A c w', (convert 9 32 (.string (str l))).run Tryd.prog w = .ok (.slice A l.length c) w' ∧ Rd w' (.slice A l.length c) (bytesU l) ∧ Below w.heap.size w w' := by
  refine ⟨_, _, _, run_bytes_of_string w 9 32 5 (str l) Tryd.underlying9 Tryd.underlying32 Tryd.underlying5, ?_, ((Below.refl _ w).drew).alloc (Nat.le_refl _) _⟩
  refine ⟨_, _, by rw [bytesU_length], fun _ => ⟨_, rfl, fun j u hu => ?_⟩⟩
  have hj : j < l.length := by have := (List.getElem?_eq_some_iff.1 hu).1; rwa [bytesU_length] at this
  rw [Addr.add_lit, Nat.zero_add]
  have hn : (w.drew.alloc (.cells (bytesRow (str l) (grownCap w (str l).size 0 5)) 5 ((bytesRow (str l) (grownCap w (str l).size 0 5)).size, (bytesRow (str l) (grownCap w (str l).size 0 5)).size + 1))).heap[w.heap.size]? = some (.cells (bytesRow (str l) (grownCap w (str l).size 0 5)) 5 ((bytesRow (str l) (grownCap w (str l).size 0 5)).size, (bytesRow (str l) (grownCap w (str l).size 0 5)).size + 1)) := heap_alloc_new w.drew _
  rw [cell_of_row _ _ _ _ _ _ hn, bytesRow_at (str l) _ j (by simpa [str] using hj), ← hu]
  simp [bytesU, str, hj]
theorem wpList_conv_run {P : Program} {ops : Array Oper} {Q : Exit → Act → World → Prop} {rest : List Oper} {o : Oper} {a : Act} {w w' : World} (hgd : o.guard = none) (x : Operand) (s t : TypeId) {v u : Value}
    (ho : o.op = .convert s t x) (hx : a.eval x = v) (hr : (convert s t v).run P w = .ok u w')
    (h : wpList P ops Q rest (a.put o.dst u) w') : wpList P ops Q (o :: rest) a w := by
  refine wpList_plain hgd fun K hK => ?_
  unfold Oper.wp execOp
  simp only [ho, Sem.run_bind, Sem.run_pure, hx, hr, Result.andThen_ok]
  exact hK _ _ h

set_option maxRecDepth 100000 in
set_option maxHeartbeats 1600000 in
theorem refbytes_any (u : Value) (x : List UInt8) (hx : x.length ≤ 200000) (w : World) (hu : Rd w u (bytesU x)) :
    Calls Tryd.prog 52 #[u] w (RetB w (obytes x)) := by
  have N := refnum_any (x.length : Int) w
  have Hu := Lib.hid (fun w1 (b : Below w.heap.size w w1) => hu.below b)
  obtain ⟨A, c, rfl, _⟩ := id hu
  rw [bytesU_length] at Hu ⊢
  have h6 : (onumI (x.length : Int)).length ≤ 6 := onumI_len _
  unfold obytes
  generalize onumI (x.length : Int) = L at N h6 ⊢
  clear hu
  go_enter Tryd.func52, Tryd.ntmps52
  go_wp2_with fail
  refine N.mono ?_
  rintro e w1 ⟨v1, rfl, ho1, b1⟩
  have o1 : Own w.heap.size (Rw 5 1 v1 L.length (bytesU L) * Emp) w1 := Own.fresh (Nat.le_refl _) (Own.start _ _) ho1 b1
  obtain ⟨v2, w2, hrun, o2, b2⟩ := byte_append b1.size o1 (Hu.out _ b1) (by omega)
  obtain ⟨A1, c1, rfl⟩ := o1.row_n
  have Hrun := Lib.hid hrun
  have hb2 := b1.trans b2
  clear hrun ho1 N
  go_wp2_with (at_builtin; refine wpList_append_run rfl (.tmp 5) (.tmp 6) 32 rfl rfl rfl Hrun.out ?_)
  go_ret
  exact RetB.mk rfl rfl rfl rfl o2 hb2
end Go.Proofs.YtmppagiaonbggaaDoor

/- The walk over the reference's bytes of entries. -/
namespace Go.Proofs.YtmppagiaonbggaaDoor
set_option linter.unusedVariables false
set_option linter.unusedSimpArgs false
set_option maxRecDepth 100000
open Go.RowKit

theorem encE_len {e : En} (h : e.num) : (encE e).length ≤ 554 := by
  have h1 := onumI_len e.kind
  have h2 := onumI_len e.mode
  have h3 := onumI_len e.time
  have h4 := onumI_len e.beg
  have h5 := onumI_len e.size
  have h6 := onumI_len (e.path.length : Int)
  have h7 := onumI_len (e.tgt.length : Int)
  have h8 := h.path
  have h9 := h.tgt
  unfold encE obytes
  simp only [List.length_append]
  omega
/-- What a call returned goes behind a row. -/
theorem app_ret {B : Nat} {R : HP} [Loc B R] {w w1 : World} {out x : List UInt8} {A : Option Addr} {c : Nat} {v1 : Value} (hB : B ≤ w.heap.size) (o : Own B (Rw 5 1 (.slice A out.length c) out.length (bytesU out) * R) w)
    (ho1 : w1.ownsRow w.heap.size 5 1 v1 x.length (bytesU x)) (b1 : Below w.heap.size w w1) (hn : out.length + x.length ≤ 140737488355328) :
    ∃ A1 c1, v1 = .slice A1 x.length c1 ∧ ∃ (out' : List UInt8) (A2 : Option Addr) (c2 : Nat) (w2 : World), Hid (out' = out ++ x) ∧ Hid ((Builtin.append_ #[32, 32] 32 #[.slice A out.length c, .slice A1 x.length c1]).run Tryd.prog w1 = .ok (.slice A2 out'.length c2) w2) ∧
      Own B (Rw 5 1 (.slice A2 out'.length c2) out'.length (bytesU out') * R) w2 ∧ Below B w w2 := by
  have o1 := Own.fresh hB o ho1 b1
  obtain ⟨A1, c1, rfl⟩ := o1.row_n
  have hrd := o1.rd
  have o2 : Own B (Rw 5 1 (.slice A out.length c) out.length (bytesU out) * (Rw 5 1 (.slice A1 x.length c1) x.length (bytesU x) * R)) w1 := o1.cast (sep_left_comm _ _ _)
  obtain ⟨v2, w2, hrun, o3, b3⟩ := byte_append (Nat.le_trans hB b1.size) o2 hrd hn
  obtain ⟨A2, c2, rfl⟩ := o3.row_n
  exact ⟨A1, c1, rfl, out ++ x, A2, c2, w2, Lib.hid rfl, Lib.hid hrun, (o3.cast (sep_left_comm _ _ _)).right, (b1.mono hB).trans b3⟩
def numsE (e : En) : List Int := [e.kind, e.mode, e.time, e.beg, e.size]

set_option maxRecDepth 100000 in
set_option maxHeartbeats 6400000 in
theorem refenc_any (A : Option Addr) (c : Nat) (l : List En) (hl : l.length ≤ 1024) (hx : ∀ e ∈ l, e.num) (w : World) (hr : RdA 7 enL w A l) :
    Calls Tryd.prog 31 #[.slice A l.length c] w (RetB w (encL l)) := by
  have Hr := Lib.hid (fun w1 (b : Below w.heap.size w w1) => hr.below b)
  have Hx := Lib.hid hx
  have n1 : (l.length : Int) ≤ 1024 := by omega
  have N0 := refnum_any (l.length : Int) w
  have He : Hid (encL l = onumI (l.length : Int) ++ l.flatMap encE) := Lib.hid rfl
  have h6 := onumI_len (l.length : Int)
  clear hr hx
  go_enter Tryd.func31, Tryd.ntmps31
  go_wp2_with fail
  refine N0.mono ?_
  rintro e w1 ⟨v1, rfl, ho1, b1⟩
  have o1 : Own w.heap.size (Rw 5 1 v1 (onumI (l.length : Int)).length (bytesU (onumI (l.length : Int))) * Emp) w1 := Own.fresh (Nat.le_refl _) (Own.start _ _) ho1 b1
  generalize hL0 : onumI (l.length : Int) = L0 at *
  obtain ⟨A1, c1, rfl⟩ := o1.row_n
  clear hL0 ho1 N0
  go_wp2
  go_loopg [3, 4] l.length (fun k v u wr => ∃ (i : Nat) (out : List UInt8) (A' : Option Addr) (c' : Nat), k + i = l.length ∧ u = .int .i64 (i : Int) ∧ v = .slice A' out.length c' ∧ Own w.heap.size (Rw 5 1 (.slice A' out.length c') out.length (bytesU out) * Emp) wr ∧ Below w.heap.size w wr ∧ out.length ≤ 6 + 554 * i ∧ Hid (out = L0 ++ (l.take i).flatMap encE))
  case atStart => exact ⟨0, L0, A1, c1, by omega, rfl, rfl, o1, b1, by omega, Lib.hid (by simp)⟩
  case round =>
    clear o1 b1
    obtain ⟨i, out, A', c', hk, rfl, rfl, ho, hb, hol, he⟩ := hrel
    have i0' : (0 : Int) ≤ (i : Int) := by omega
    by_cases hlt : (i : Int) < (l.length : Int)
    · obtain ⟨j, rfl⟩ : ∃ j, gk = j + 1 := ⟨gk - 1, by omega⟩
      have hil : i < l.length := by omega
      obtain ⟨b, off, rfl, q, d⟩ := Hr.out _ hb i hil
      have hxi := Hx.out _ (List.getElem_mem hil)
      have Hsn : Hid ((l.take (i + 1)).flatMap encE = (l.take i).flatMap encE ++ encE l[i]) := Lib.hid (by rw [List.take_succ_eq_append_getElem hil, List.flatMap_append]; simp)
      have Hk := Lib.hid hk
      clear hk
      generalize l[i] = x at *
      have Hlen := Lib.hid (encE_len hxi)
      have Henc : Hid (encE x = (numsE x).flatMap onumI ++ (obytes x.path ++ obytes x.tgt)) := Lib.hid (by simp [encE, numsE])
      have Hnum := Lib.hid hxi
      obtain ⟨path, kind, mode, time, tgt, beg, size⟩ := x
      obtain ⟨d0, d1, d2, d3, d4, d5, d6⟩ := RdA.cells7 d
      simp only at d0 d1 d2 d3 d4 d5 d6 Hsn Henc
      have o1 := ho.alloc_keep hb.size (.cells #[.string (str path), .int .i64 kind, .int .i64 mode, .int .i64 time, .string (str tgt), .int .i64 beg, .int .i64 size] 62)
      clear d hxi o1
      have o1 := ho.new hb.size 62 #[.string (str path), .int .i64 kind, .int .i64 mode, .int .i64 time, .string (str tgt), .int .i64 beg, .int .i64 size]
      have hb1 := hb.alloc hb.size (.cells #[.string (str path), .int .i64 kind, .int .i64 mode, .int .i64 time, .string (str tgt), .int .i64 beg, .int .i64 size] 62)
      have o2 := o1.new hb1.size 3 #[.int .i64 kind, .int .i64 mode, .int .i64 time, .int .i64 beg, .int .i64 size]
      have hb2 := hb1.alloc hb1.size (.cells #[.int .i64 kind, .int .i64 mode, .int .i64 time, .int .i64 beg, .int .i64 size] 3)
      have eN : (wr.alloc (.cells #[.string (str path), .int .i64 kind, .int .i64 mode, .int .i64 time, .string (str tgt), .int .i64 beg, .int .i64 size] 62)).heap.size = wr.heap.size + 1 := by simp
      rw [eN] at o2
      have o3 := o2.foc (Rw 5 1 (.slice A' out.length c') out.length (bytesU out))
      clear o1 o2 hb1 ho hb eN
      generalize hX0 : wr.heap.size = X0 at *
      go_wp2
      go_loopg [3, 7] 5 (fun k v u wr2 => ∃ (t : Nat) (out2 : List UInt8) (A2 : Option Addr) (c2 : Nat), k + t = 5 ∧ u = .int .i64 (t : Int) ∧ v = .slice A2 out2.length c2 ∧ Own w.heap.size (Rw 5 1 (.slice A2 out2.length c2) out2.length (bytesU out2) * (Bk (X0 + 1) 3 #[.int .i64 kind, .int .i64 mode, .int .i64 time, .int .i64 beg, .int .i64 size] * (Bk X0 62 #[.string (str path), .int .i64 kind, .int .i64 mode, .int .i64 time, .string (str tgt), .int .i64 beg, .int .i64 size] * Emp))) wr2 ∧ Below w.heap.size w wr2 ∧ out2.length ≤ out.length + 6 * t ∧ Hid (out2 = out ++ ((numsE ⟨path, kind, mode, time, tgt, beg, size⟩).take t).flatMap onumI))
      case atStart => exact ⟨0, out, A', c', rfl, rfl, rfl, o3, hb2, by omega, Lib.hid (by simp)⟩
      case round =>
        clear o3 hb2
        obtain ⟨t, out2, A2, c2, hkt, rfl, rfl, ho, hb, hol2, he2⟩ := hrel
        have t0' : (0 : Int) ≤ (t : Int) := by omega
        by_cases hlt2 : (t : Int) < 5
        · obtain ⟨jt, rfl⟩ : ∃ j, gk = j + 1 := ⟨gk - 1, by omega⟩
          have ht5 : t < 5 := by omega
          have hc : wr.cell? ⟨X0 + 1, t, none⟩ = some (.int .i64 ((numsE ⟨path, kind, mode, time, tgt, beg, size⟩)[t]'ht5)) := (ho.cellOf (X0 + 1) t).trans (by
            have : t = 0 ∨ t = 1 ∨ t = 2 ∨ t = 3 ∨ t = 4 := by omega
            rcases this with rfl | rfl | rfl | rfl | rfl <;> rfl)
          have Htk : Hid ((numsE ⟨path, kind, mode, time, tgt, beg, size⟩).take (t + 1) = (numsE ⟨path, kind, mode, time, tgt, beg, size⟩).take t ++ [(numsE ⟨path, kind, mode, time, tgt, beg, size⟩)[t]'ht5]) := Lib.hid (List.take_succ_eq_append_getElem ht5)
          generalize (numsE ⟨path, kind, mode, time, tgt, beg, size⟩)[t]'ht5 = z at *
          have N := refnum_any z wr
          have hz6 := onumI_len z
          have Hkt := Lib.hid hkt
          clear hkt
          go_wp2_with fail
          refine N.mono ?_
          rintro e w3 ⟨v1, rfl, ho1, b1⟩
          obtain ⟨A3, c3, rfl, out3, A4, c4, w4, he3, Hrun, o4, b4⟩ := app_ret hb.size ho ho1 b1 (by omega)
          have hb4 := hb.trans b4
          clear ho hb ho1 b1 b4 hc N
          go_wp2_with (at_builtin; refine wpList_append_run rfl (.tmp 36) (.tmp 41) 32 rfl rfl rfl Hrun.out ?_)
          go_roundg jt
          case measure => omega
          case rel => exact ⟨t + 1, out3, A4, c4, by have := Hkt.out; omega, rfl, rfl, o4, hb4, by rw [he3.out, List.length_append]; omega, Lib.hid (by rw [he3.out, he2.out, Htk.out]; simp)⟩
        · obtain rfl : t = 5 := by omega
          have cp : wr.cell? ⟨X0, 0, none⟩ = some (.string (str path)) := ho.cellOf X0 0
          obtain ⟨Ap, cp', wp, hcv, hrp, bp⟩ := conv_bytes wr path
          have Hcv := Lib.hid hcv
          have hp256 := Hnum.out.path
          have ht256 := Hnum.out.tgt
          simp only at hp256 ht256
          have R1 := refbytes_any (.slice Ap path.length cp') path (by omega) wp hrp
          have ho2 := ho.grown hb.size bp
          have hbp := hb.trans (bp.mono hb.size)
          clear hcv hrp ho bp hb
          go_wp2_with (refine wpList_conv_run rfl (.tmp 45) 9 32 rfl rfl Hcv.out ?_)
          refine R1.mono ?_
          rintro e w3 ⟨v1, rfl, ho1, b1⟩
          have hop : (obytes path).length ≤ 300 := by unfold obytes; rw [List.length_append]; have := onumI_len (path.length : Int); omega
          have hot : (obytes tgt).length ≤ 300 := by unfold obytes; rw [List.length_append]; have := onumI_len (tgt.length : Int); omega
          obtain ⟨A3, c3, rfl, out3, A4, c4, w4, he3, Hrun, o4, b4⟩ := app_ret hbp.size ho2 ho1 b1 (by omega)
          have ho3 : out3.length = out2.length + (obytes path).length := by rw [he3.out, List.length_append]
          have hb4 := hbp.trans b4
          have ct : w4.cell? ⟨X0, 4, none⟩ = some (.string (str tgt)) := o4.cellOf X0 4
          obtain ⟨At, ct', wt, hcv2, hrt, bt⟩ := conv_bytes w4 tgt
          have Hcv2 := Lib.hid hcv2
          have R2 := refbytes_any (.slice At tgt.length ct') tgt (by omega) wt hrt
          have o5 := o4.grown hb4.size bt
          have hb5 := hb4.trans (bt.mono hb4.size)
          have Ho3 := Lib.hid ho3
          clear hcv2 hrt o4 bt hb4 b4 ho2 hbp ho1 b1 cp R1 ho3 Hcv
          go_wp2_with (first
            | (at_builtin; refine wpList_append_run rfl (.tmp 43) (.tmp 47) 32 rfl rfl rfl Hrun.out ?_)
            | (refine wpList_conv_run rfl (.tmp 51) 9 32 rfl rfl Hcv2.out ?_))
          refine R2.mono ?_
          rintro e w6 ⟨v1, rfl, ho1, b1⟩
          obtain ⟨A5, c5, rfl, out5, A6, c6, w7, he5, Hrun5, o6, b6⟩ := app_ret hb5.size o5 ho1 b1 (by have := Ho3.out; omega)
          have hb6 := hb5.trans b6
          have o7 := (o6.cast (show _ = Bk (X0 + 1) _ _ * (Bk X0 _ _ * (Rw _ _ _ _ _ * Emp)) by ac_rfl)).right.right
          clear o5 hb5 ho1 b1 b6 o6 Hrun Hcv2 R2 ct
          go_wp2_with (at_builtin; refine wpList_append_run rfl (.tmp 49) (.tmp 53) 32 rfl rfl rfl Hrun5.out ?_)
          go_roundg j
          case measure => omega
          case rel =>
            have hfin : out5 = L0 ++ (l.take (i + 1)).flatMap encE := by
              rw [he5.out, he3.out, he2.out, Hsn.out, Henc.out, he.out]
              have : (numsE ⟨path, kind, mode, time, tgt, beg, size⟩).take 5 = numsE ⟨path, kind, mode, time, tgt, beg, size⟩ := rfl
              rw [this]
              simp only [List.append_assoc]
            exact ⟨i + 1, out5, A6, c6, by have := Hk.out; omega, rfl, rfl, o7, hb6, by
              have h1 := congrArg List.length hfin
              have h2 := congrArg List.length he.out
              have h3 := Hlen.out
              rw [Hsn.out] at h1
              simp only [List.length_append] at h1 h2
              omega, Lib.hid hfin⟩
    · obtain rfl : i = l.length := by omega
      rw [List.take_length] at he
      go_wp2
      go_ret
      exact RetB.mk rfl rfl (by rw [He.out, he.out]) rfl ho hb
end Go.Proofs.YtmppagiaonbggaaDoor

/- The rule of two threads once more: with reads that what both leave alone decides, in whatever order; and steps that append. -/
namespace Go.Proofs.YtmppagiaonbggaaDoor
set_option linter.unusedVariables false
set_option linter.unusedSimpArgs false
set_option maxRecDepth 100000
open Go.RowKit

section
variable {P : Program} {ops : Array Oper} {md : Region.Mode} {Q : Exit → Act → World → Prop} {B : Nat}

theorem wpL_two (hsel : Region.noSelect ops = true) {ts : List Nat} {R : HP} [Loc B R] {T : Act → World → Prop} : ∀ (n : Nat) (l1 l2 : List Nat) (listed : Array Bool) (a : Act) (w : World) (Φ1 Φ2 : List Value → HP → Prop) (A1 A2 : HP), l1.length + l2.length = n → Loc B A1 → Loc B A2 →
    TwoOk md ops listed l1 l2 ts → TW P ops B (opsOf ops l1) Φ1 a A1 → TW P ops B (opsOf ops l2) Φ2 a A2 → B ≤ w.heap.size → Own B (A1 * (A2 * R)) w →
    (∀ vs1 A1' vs2 A2' w', Φ1 vs1 A1' → Φ2 vs2 A2' → Own B (A1' * (A2' * R)) w' → Below B w w' → T (putAll (opsOf ops l2) vs2 (putAll (opsOf ops l1) vs1 a)) w') →
    wpL P md ops Q (fun w => Own B R w) T n listed a w
  | 0, l1, l2, listed, a, w, Φ1, Φ2, A1, A2, hn, _, _, ok, h1, h2, hB, hO, hK => by
    obtain rfl : l1 = [] := List.eq_nil_of_length_eq_zero (by omega)
    obtain rfl : l2 = [] := List.eq_nil_of_length_eq_zero (by omega)
    exact hK [] A1 [] A2 w h1 h2 hO (Below.refl B w)
  | n + 1, l1, l2, listed, a, w, Φ1, Φ2, A1, A2, hn, k1, k2, ok, h1, h2, hB, hO, hK => by
    have hne : l1 ≠ [] ∨ l2 ≠ [] := by
      cases l1 with
      | nil => right; intro e; subst e; simp at hn
      | cons x l => left; simp
    have hrdy : Region.ready md ops listed ≠ [] := by
      intro h0
      rcases hne with hne | hne
      · obtain ⟨x, l, rfl⟩ : ∃ x l, l1 = x :: l := by cases l1 with | nil => exact absurd rfl hne | cons x l => exact ⟨x, l, rfl⟩
        have hlex := ok.lex1
        simp only [lexOk, Bool.and_eq_true] at hlex
        have hun := ok.un x (by simp)
        have : x ∈ Region.ready md ops listed := mem_ready'.2 ⟨hun.1, hun.2, hlex.1⟩
        rw [h0] at this; cases this
      · obtain ⟨x, l, rfl⟩ : ∃ x l, l2 = x :: l := by cases l2 with | nil => exact absurd rfl hne | cons x l => exact ⟨x, l, rfl⟩
        have hlex := ok.lex2
        simp only [lexOk, Bool.and_eq_true] at hlex
        have hun := ok.un x (by simp)
        have : x ∈ Region.ready md ops listed := mem_ready'.2 ⟨hun.1, hun.2, hlex.1⟩
        rw [h0] at this; cases this
    have hd : ∀ {A1' A2' : HP} {w' : World}, Loc B A1' → Loc B A2' → Own B (A1' * (A2' * R)) w' → Own B R w' := fun _ _ h => h.right.right
    refine ⟨hrdy, fun i hi => ?_⟩
    have hlt := (mem_ready'.1 hi).1
    obtain ⟨o, ho⟩ : ∃ o, ops[i]? = some o := ⟨_, Array.getElem?_eq_getElem hlt⟩
    unfold wpOp
    simp only [ho]
    rcases ok.only hne hi with ⟨l, rfl⟩ | ⟨l, rfl⟩
    · rw [opsOf_cons ho] at h1
      have hap : ∀ o' ∈ opsOf ops l2, (∃ j : Nat, ops[j]? = some o') ∧ o'.apart ops o = true := fun o' h' => by
        obtain ⟨j, hj, hoj⟩ := mem_opsOf h'
        exact ⟨⟨j, hoj⟩, (ok.apart i List.mem_cons_self j hj o o' ho hoj).2⟩
      have hlen : l.length + l2.length = n := by simp at hn; omega
      obtain ⟨_, h1 | h1⟩ := h1
      · rw [if_pos h1.1]
        left
        refine h1.2.wp hB hO fun v A' w' ⟨kl, ht⟩ hO' hb => ⟨hd kl k2 hO', ?_⟩
        refine wpL_two hsel n l l2 _ _ w' (fun vs => Φ1 (v :: vs)) Φ2 A' A2 hlen kl k2 ok.strike ht (h2.put hsel _ _ _ _ hap) (Nat.le_trans hB hb.size) hO' fun vs1 A1' vs2 A2' w'' p1 p2 hO'' hb' => ?_
        have := hK (v :: vs1) A1' vs2 A2' w'' p1 p2 hO'' (hb.trans hb')
        rw [opsOf_cons ho] at this
        exact this
      · rw [if_neg (by rw [h1.1]; exact Bool.false_ne_true)]
        refine ⟨hd k1 k2 hO, wpL_two hsel n l l2 _ _ w (fun vs => Φ1 (undef :: vs)) Φ2 A1 A2 hlen k1 k2 ok.strike h1.2 (h2.put hsel _ _ _ _ hap) hB hO fun vs1 A1' vs2 A2' w'' p1 p2 hO'' hb' => ?_⟩
        have := hK (undef :: vs1) A1' vs2 A2' w'' p1 p2 hO'' hb'
        rw [opsOf_cons ho] at this
        exact this
    · rw [opsOf_cons ho] at h2
      have hap : ∀ o' ∈ opsOf ops l1, (∃ j : Nat, ops[j]? = some o') ∧ o'.apart ops o = true := fun o' h' => by
        obtain ⟨j, hj, hoj⟩ := mem_opsOf h'
        exact ⟨⟨j, hoj⟩, (ok.apart j hj i List.mem_cons_self o' o hoj ho).1⟩
      have hlen : l1.length + l.length = n := by simp at hn; omega
      obtain ⟨_, h2 | h2⟩ := h2
      · rw [if_pos h2.1]
        left
        refine h2.2.wp hB (hO.cast (sep_left_comm _ _ _)) fun v A' w' ⟨kl, ht⟩ hO' hb => ⟨hd kl k1 hO', ?_⟩
        refine wpL_two hsel n l1 l _ _ w' Φ1 (fun vs => Φ2 (v :: vs)) A1 A' hlen k1 kl ok.swap.strike.swap (h1.put hsel _ _ _ _ hap) ht (Nat.le_trans hB hb.size) (hO'.cast (sep_left_comm _ _ _)) fun vs1 A1' vs2 A2' w'' p1 p2 hO'' hb' => ?_
        have := hK vs1 A1' (v :: vs2) A2' w'' p1 p2 hO'' (hb.trans hb')
        rw [opsOf_cons ho] at this
        rw [putAll_put _ _ _ _ _ (fun o' h' => (hap o' h').2)]
        exact this
      · rw [if_neg (by rw [h2.1]; exact Bool.false_ne_true)]
        refine ⟨hd k1 k2 hO, wpL_two hsel n l1 l _ _ w Φ1 (fun vs => Φ2 (undef :: vs)) A1 A2 hlen k1 k2 ok.swap.strike.swap (h1.put hsel _ _ _ _ hap) h2.2 hB hO fun vs1 A1' vs2 A2' w'' p1 p2 hO'' hb' => ?_⟩
        have := hK vs1 A1' (undef :: vs2) A2' w'' p1 p2 hO'' hb'
        rw [opsOf_cons ho] at this
        rw [putAll_put _ _ _ _ _ (fun o' h' => (hap o' h').2)]
        exact this

/-- THE RULE: us free · ls: reads that R decides, ahead of ts · l1 and l2 two threads · ts the rest, in their order. -/
theorem wp_region_ltwo {id : Nat} {a : Act} {w : World} (us ls l1 l2 ts : List Nat) (A1 A2 R : HP) [k1 : Loc B A1] [k2 : Loc B A2] [Loc B R] (hm : P.follows .mixedOrders = true)
    (hB : (freeB .any ops us (Array.replicate ops.size false) && mixB .any ops (markAll us (Array.replicate ops.size false)) (ls ++ (l1 ++ l2)) ts && twoB .any ops (markAll ls (markAll us (Array.replicate ops.size false))) l1 l2 ts) = true)
    (hf : ops.size = us.length + ((ls.length + (l1.length + l2.length)) + ts.length))
    (hQ : ∀ c a d v w, Q (.panic c) (a.put (some d) v) w → Q (.panic c) a w) (hsz : B ≤ w.heap.size) (hO : Own B (A1 * (A2 * R)) w.drew)
    (h : wpFree P ops (fun a1 => wpLate P ops (fun w => Own B R w) (fun a2 => ∃ Φ1 Φ2 : List Value → HP → Prop, TW P ops B (opsOf ops l1) Φ1 a2 A1 ∧ TW P ops B (opsOf ops l2) Φ2 a2 A2 ∧
      ∀ vs1 A1' vs2 A2' w', Φ1 vs1 A1' → Φ2 vs2 A2' → Own B (A1' * (A2' * R)) w' → Below B w w' → wpList P ops Q (ts.filterMap fun i => ops[i]?) (putAll (opsOf ops l2) vs2 (putAll (opsOf ops l1) vs1 a2)) w')
      (ls.filterMap fun i => ops[i]?) a1) (us.filterMap fun i => ops[i]?) a) : (Code.region id ops true).wp P Q a w := by
  simp only [Bool.and_eq_true] at hB
  obtain ⟨⟨hB1, hB2⟩, hB3⟩ := hB
  obtain ⟨hsel, ok1⟩ := mixB_ok hB2
  obtain ⟨_, ok2⟩ := twoB_ok hB3
  have hts : ∀ i ∈ ts, i < ops.size := fun i hi => (ok1.un i (by simp [hi])).1
  refine wp_region_any hm ?_
  have hR : Own B R w.drew := hO.right.right
  have hgo : wpAny P .any ops Q (us.length + ((ls.length + (l1.length + l2.length)) + ts.length)) (Array.replicate ops.size false) a w.drew := by
    refine wpAny_free hQ hsel us _ a hB1 (fun a1 h1 => ?_) h
    refine wpL_any (S := fun w => Own B R w) (T := fun a4 w4 => wpOps P ops Q ts a4 w4) (fun _ _ h => h) _ (ls ++ (l1 ++ l2)) _ a1 _ (by simp) ok1 ?_
    have := wpL_lates (P := P) (S := fun w => Own B R w) (T := fun a4 w4 => wpOps P ops Q ts a4 w4) (w := w.drew) hsel hQ hR ls (l1 ++ l2) _ a1 ok1 (fun a2 ⟨Φ1, Φ2, t1, t2, hK⟩ _ => ?_) h1
    · rw [List.length_append]
      exact wpL_two hsel (l1.length + l2.length) l1 l2 _ a2 _ Φ1 Φ2 A1 A2 rfl k1 k2 ok2 t1 t2 hsz hO fun vs1 A1' vs2 A2' w' p1 p2 ho hb => wpOps_list ts _ w' hts (hK vs1 A1' vs2 A2' w' p1 p2 ho ((Below.refl B w).drew.trans hb))
    · rw [List.length_append] at this
      exact this
  rw [← hf] at hgo
  exact hgo

/-- A step that makes memory, or turns what the thread owns. -/
theorem tw_run {o : Oper} {l : List Oper} {Φ : List Value → HP → Prop} {a : Act} {A : HP} [k : Loc B A] (Ψ : Value → HP → Prop) (hw : Region.wanted o (yielded ops a.tmps) = true)
    (hr : ∀ (R : HP) [Loc B R] (w : World), B ≤ w.heap.size → Own B (A * R) w → ∃ v A' w', (execOp a.eval o).run P w = .ok (.value v) w' ∧ (Loc B A' ∧ Ψ v A') ∧ Own B (A' * R) w' ∧ Below B w w')
    (h : ∀ v A', Loc B A' → Ψ v A' → TW P ops B l (fun vs => Φ (v :: vs)) (a.put o.dst v) A') : TW P ops B (o :: l) Φ a A :=
  ⟨k, .inl ⟨hw, fun R _ w hB hO => by
    obtain ⟨v, A', w', he, ⟨kl, hp⟩, ho, hb⟩ := hr R w hB hO
    rw [he]
    exact ⟨A', ⟨kl, h v A' kl hp⟩, ho, hb⟩⟩⟩

theorem exec_append {o : Oper} {a : Act} {w w' : World} (s x : Operand) (t : TypeId) {v u v' : Value} (ho : o.op = .call { callee := .builtin .append, args := #[s, x], argTypes := #[t, t] }) (hs : a.eval s = v) (hx : a.eval x = u)
    (hr : (Builtin.append_ #[t, t] o.type #[v, u]).run P w = .ok v' w') : (execOp a.eval o).run P w = .ok (.value v') w' := by
  unfold execOp
  simp only [ho, resolve, invoke, builtin, Sem.run_bind, Sem.run_pure, Result.andThen_ok, List.map_toArray, List.map_cons, List.map_nil, hs, hx, hr]
end
end Go.Proofs.YtmppagiaonbggaaDoor

/- The walk over Encode of package entry. -/
namespace Go.Proofs.YtmppagiaonbggaaDoor
set_option linter.unusedVariables false
set_option linter.unusedSimpArgs false
set_option maxRecDepth 100000
open Go.RowKit

/-- Bytes that are read alone, of a block that is owned. -/
def Rdo (v : Value) (l : List UInt8) : HP := fun w F => Rd w v (bytesU l) ∧ ∀ a n c, v = .slice (some a) n c → F a.block
instance Loc.rdo {B : Nat} {v : Value} {l : List UInt8} : Loc B (Rdo v l) where
  keep := fun w w' F h _ ⟨⟨A, c, e, hc⟩, hF⟩ => ⟨⟨A, c, e, fun hne => by
    obtain ⟨ad, rfl, hcc⟩ := hc hne
    exact ⟨ad, rfl, fun j u hu => (World.cell?_of_block (by rw [add_block]; exact h _ (hF _ _ _ e))).trans (hcc j u hu)⟩⟩, hF⟩
  up := fun w F F' h ⟨hr, hF⟩ => ⟨hr, fun a n c e => h _ (hF a n c e)⟩
theorem Own.rdo {B : Nat} {v : Value} {l : List UInt8} {R : HP} {w : World} (h : Own B (Rdo v l * R) w) : Rd w v (bytesU l) := by
  obtain ⟨F, hf, F1, F2, hd, h1, h2, ha, hr⟩ := h
  exact ha.1
set_option maxRecDepth 100000 in
theorem conv_own {B : Nat} {R : HP} [Loc B R] {w : World} (hB : B ≤ w.heap.size) (h : Own B R w) (l : List UInt8) : ∃ A c w', (convert 9 32 (.string (str l))).run Tryd.prog w = .ok (.slice A l.length c) w' ∧ Own B (Rdo (.slice A l.length c) l * R) w' ∧ Below B w w' := by
  obtain ⟨A, c, w', hr, hrd, hb⟩ := conv_bytes w l
  have h2 := run_bytes_of_string w 9 32 5 (str l) Tryd.underlying9 Tryd.underlying32 Tryd.underlying5
  rw [hr] at h2
  injection h2 with e1 e2
  injection e1 with e3 e4 e5
  refine ⟨A, c, w', hr, Own.turn hB h.emp hb.size fun F _ _ => ⟨fun k => k = w.heap.size, fun k hk => .inr ⟨by omega, ?_⟩, ⟨hrd, fun a n c' e => ?_⟩, fun k hk _ => hb.block k hk⟩, hb.mono hB⟩
  · subst hk; rw [e2]; simp
  · injection e with e _ _
    rw [e3] at e
    injection e with e
    rw [← e]

theorem obytes_len (x : List UInt8) : (obytes x).length ≤ 6 + x.length := by unfold obytes; rw [List.length_append]; have := onumI_len (x.length : Int); omega
theorem obytes_ret (v u : Value) (l x : List UInt8) (hl : l.length ≤ 140737488000000) (hx : x.length ≤ 200000) (w : World) (hr : Rd w v (bytesU l)) (hu : Rd w u (bytesU x)) :
    Calls Tryd.prog 36 #[v, u] w (RetB w (l ++ obytes x)) := by
  have := obytes_any v u l x hl hx w hr hu
  rw [List.append_assoc] at this
  exact this

theorem index5 (W : World) (a b c d e : Int) (t : Nat) (ht : t = 0 ∨ t = 1 ∨ t = 2 ∨ t = 3 ∨ t = 4) :
    (Instr.index 72 (.agg #[.int .i64 a, .int .i64 b, .int .i64 c, .int .i64 d, .int .i64 e]) (.int .i64 (t : Int))).run Tryd.prog W = .ok (.int .i64 ([a, b, c, d, e].getD t 0)) W := by
  have h1 : (Tryd.prog.info? 3).map (fun i => i.size) = some 1 := by kernel_rfl
  obtain ⟨i0, hi, hs⟩ := Option.map_eq_some_iff.1 h1
  have h2 := Tryd.underlying3
  rcases ht with rfl | rfl | rfl | rfl | rfl <;> simp [Instr.index, asIntOf, run_underlying Tryd.underlying72, part, sizeOf, typeInfo, hi, hs, run_underlying h2, go_sem]
theorem exec_conv {P : Program} {o : Oper} {a : Act} {w w' : World} (x : Operand) (s t : TypeId) {v u : Value} (ho : o.op = .convert s t x) (hx : a.eval x = v) (hr : (convert s t v).run P w = .ok u w') : (execOp a.eval o).run P w = .ok (.value u) w' := by
  unfold execOp
  simp only [ho, Sem.run_bind, Sem.run_pure, hx, hr, Result.andThen_ok]
/-- A row that a call made takes the place of another one. -/
theorem own_new {B : Nat} {R : HP} [Loc B R] {w w1 : World} {v0 v1 : Value} {old L : List UInt8} (hB : B ≤ w.heap.size) (o : Own B (Rw 5 1 v0 old.length (bytesU old) * R) w)
    (ho1 : w1.ownsRow w.heap.size 5 1 v1 L.length (bytesU L)) (b1 : Below w.heap.size w w1) :
    ∃ (L' : List UInt8) (A1 : Option Addr) (c1 : Nat), Hid (L' = L) ∧ v1 = .slice A1 L'.length c1 ∧ Own B (Rw 5 1 (.slice A1 L'.length c1) L'.length (bytesU L') * R) w1 ∧ Below B w w1 := by
  have o1 := Own.fresh hB o ho1 b1
  obtain ⟨A1, c1, rfl⟩ := o1.row_n
  exact ⟨L, A1, c1, Lib.hid rfl, rfl, (o1.cast (sep_left_comm _ _ _)).right, b1.mono hB⟩
def EncP (w : World) (l : List En) (e : Ending) (w' : World) : Prop :=
  if fineB l then ∃ v, e = .returned (.tuple #[v, .int .i64 0]) ∧ w'.ownsRow w.heap.size 5 1 v (encL l).length (bytesU (encL l)) ∧ Below w.heap.size w w'
  else e = .returned (.tuple #[.slice none 0 0, .int .i64 1]) ∧ Below w.heap.size w w'

set_option maxRecDepth 100000 in
set_option maxHeartbeats 6400000 in
theorem encode_any (A : Option Addr) (c : Nat) (l : List En) (hl : l.length ≤ 4294967296) (ok : ∀ e ∈ l, e.ok) (hx : ∀ e ∈ l, e.path.length ≤ 4294967280) (w : World) (h : Sh w) (hr : RdA 7 enL w A l) :
    Calls Tryd.prog 18 #[.slice A l.length c] w (EncP w l) := by
  have Fi := fine_any A c l hl ok hx w h hr
  cases hff : fineB l with
  | false =>
    have e0 : Hid (∀ e w', (e = .returned (.tuple #[.slice none 0 0, .int .i64 1]) ∧ Below w.heap.size w w') → EncP w l e w') := Lib.hid (fun e w' h => by unfold EncP; rw [hff]; exact h)
    rw [hff] at Fi
    clear hr h hff
    go_enter Tryd.func18, Tryd.ntmps18
    go_wp2_with fail
    refine Fi.mono ?_
    rintro e w1 ⟨rfl, b1⟩
    go_wp2
    go_ret2
    exact e0.out _ _ ⟨rfl, b1⟩
  | true =>
    have e0 : Hid (∀ e w', (∃ v, e = .returned (.tuple #[v, .int .i64 0]) ∧ w'.ownsRow w.heap.size 5 1 v (encL l).length (bytesU (encL l)) ∧ Below w.heap.size w w') → EncP w l e w') := Lib.hid (fun e w' h => by unfold EncP; rw [hff]; exact h)
    have Hr := Lib.hid (fun w1 (b : Below w.heap.size w w1) => hr.below b)
    have Hx := Lib.hid (fine_num hff)
    have hl1024 : l.length ≤ 1024 := (whyE_zero (fineB_true hff).1).2.1
    have n1 : (l.length : Int) ≤ 1024 := by omega
    have N0 := fun w1 => number_any (.slice none 0 0) [] (by simp) (l.length : Int) w1 (Rd.nil w1)
    have He : Hid (encL l = onumI (l.length : Int) ++ l.flatMap encE) := Lib.hid rfl
    have h6 := onumI_len (l.length : Int)
    rw [hff] at Fi
    simp only [List.nil_append] at N0
    clear hr hx h hff ok hl
    go_enter Tryd.func18, Tryd.ntmps18
    go_wp2_with fail
    refine Fi.mono ?_
    rintro e w0 ⟨rfl, b0⟩
    go_wp2_with fail
    refine (N0 w0).mono ?_
    rintro e w1 ⟨v1, rfl, ho1, b1⟩
    have o1 : Own w.heap.size (Rw 5 1 v1 (onumI (l.length : Int)).length (bytesU (onumI (l.length : Int))) * Emp) w1 := Own.fresh b0.size (Own.start _ _) ho1 b1
    have hb1 := b0.trans (b1.mono b0.size)
    generalize hL0 : onumI (l.length : Int) = L0 at *
    obtain ⟨A1, c1, rfl⟩ := o1.row_n
    clear hL0 ho1 N0 b0 b1 Fi
    go_wp2
    go_loopg [4, 17] l.length (fun k v u wr => ∃ (i : Nat) (out : List UInt8) (A' : Option Addr) (c' : Nat), k + i = l.length ∧ u = .int .i64 (i : Int) ∧ v = .slice A' out.length c' ∧ Own w.heap.size (Rw 5 1 (.slice A' out.length c') out.length (bytesU out) * Emp) wr ∧ Below w.heap.size w wr ∧ out.length ≤ 6 + 554 * i ∧ Hid (out = L0 ++ (l.take i).flatMap encE))
    case atStart => exact ⟨0, L0, A1, c1, by omega, rfl, rfl, o1, hb1, by omega, Lib.hid (by simp)⟩
    case round =>
      clear o1 hb1
      obtain ⟨i, out, A', c', hk, rfl, rfl, ho, hb, hol, he⟩ := hrel
      have i0' : (0 : Int) ≤ (i : Int) := by omega
      by_cases hlt : (i : Int) < (l.length : Int)
      · obtain ⟨j, rfl⟩ : ∃ j, gk = j + 1 := ⟨gk - 1, by omega⟩
        have hil : i < l.length := by omega
        obtain ⟨b, off, rfl, q, d⟩ := Hr.out _ hb i hil
        have hxi := Hx.out _ (List.getElem_mem hil)
        have Hsn : Hid ((l.take (i + 1)).flatMap encE = (l.take i).flatMap encE ++ encE l[i]) := Lib.hid (by rw [List.take_succ_eq_append_getElem hil, List.flatMap_append]; simp)
        have Hk := Lib.hid hk
        clear hk
        generalize l[i] = x at *
        have Hlen := Lib.hid (encE_len hxi)
        have Henc : Hid (encE x = (numsE x).flatMap onumI ++ (obytes x.path ++ obytes x.tgt)) := Lib.hid (by simp [encE, numsE])
        have Hnum := Lib.hid hxi
        obtain ⟨path, kind, mode, time, tgt, beg, size⟩ := x
        obtain ⟨d0, d1, d2, d3, d4, d5, d6⟩ := RdA.cells7 d
        simp only at d0 d1 d2 d3 d4 d5 d6 Hsn Henc
        clear d hxi
        have o3 := (ho.new hb.size 71 #[.string (str path), .int .i64 kind, .int .i64 mode, .int .i64 time, .string (str tgt), .int .i64 beg, .int .i64 size]).foc (Rw 5 1 (.slice A' out.length c') out.length (bytesU out))
        have hb2 := hb.alloc hb.size (.cells #[.string (str path), .int .i64 kind, .int .i64 mode, .int .i64 time, .string (str tgt), .int .i64 beg, .int .i64 size] 71)
        clear ho hb
        generalize hX0 : wr.heap.size = X0 at *
        go_wp2
        go_loopg [4, 32] 5 (fun k v u wr2 => ∃ (t : Nat) (out2 : List UInt8) (A2 : Option Addr) (c2 : Nat), k + t = 5 ∧ u = .int .i64 (t : Int) ∧ v = .slice A2 out2.length c2 ∧ Own w.heap.size (Rw 5 1 (.slice A2 out2.length c2) out2.length (bytesU out2) * (Bk X0 71 #[.string (str path), .int .i64 kind, .int .i64 mode, .int .i64 time, .string (str tgt), .int .i64 beg, .int .i64 size] * Emp)) wr2 ∧ Below w.heap.size w wr2 ∧ out2.length ≤ out.length + 6 * t ∧ Hid (out2 = out ++ ((numsE ⟨path, kind, mode, time, tgt, beg, size⟩).take t).flatMap onumI))
        case atStart => exact ⟨0, out, A', c', rfl, rfl, rfl, o3, hb2, by omega, Lib.hid (by simp)⟩
        case round =>
          clear o3 hb2
          obtain ⟨t, out2, A2, c2, hkt, rfl, rfl, ho, hb, hol2, he2⟩ := hrel
          have t0' : (0 : Int) ≤ (t : Int) := by omega
          by_cases hlt2 : (t : Int) < 5
          · obtain ⟨jt, rfl⟩ : ∃ j, gk = j + 1 := ⟨gk - 1, by omega⟩
            have ht5 : t = 0 ∨ t = 1 ∨ t = 2 ∨ t = 3 ∨ t = 4 := by omega
            have kx := fun W => index5 W kind mode time beg size t ht5
            have Htk : Hid ((numsE ⟨path, kind, mode, time, tgt, beg, size⟩).take (t + 1) = (numsE ⟨path, kind, mode, time, tgt, beg, size⟩).take t ++ [[kind, mode, time, beg, size].getD t 0]) := Lib.hid (by rcases ht5 with rfl | rfl | rfl | rfl | rfl <;> rfl)
            generalize [kind, mode, time, beg, size].getD t 0 = z at *
            have N := number_any (.slice A2 out2.length c2) out2 (by omega) z wr ho.rd
            have hz6 := onumI_len z
            have Hkt := Lib.hid hkt
            clear hkt ht5
            go_wp2_with fail
            refine N.mono ?_
            rintro e w3 ⟨v1, rfl, ho1, b1⟩
            obtain ⟨out3, A3, c3, he3, rfl, o4, b4⟩ := own_new hb.size ho ho1 b1
            have hb4 := hb.trans b4
            clear ho hb ho1 b1 b4 N
            go_wp2
            go_roundg jt
            case measure => omega
            case rel => exact ⟨t + 1, out3, A3, c3, by have := Hkt.out; omega, rfl, rfl, o4, hb4, by rw [he3.out, List.length_append]; omega, Lib.hid (by rw [he3.out, he2.out, Htk.out]; simp)⟩
          · obtain rfl : t = 5 := by omega
            have hp256 := Hnum.out.path
            have ht256 := Hnum.out.tgt
            simp only at hp256 ht256
            have hop := obytes_len path
            have hot := obytes_len tgt
            go_wp2
            refine wp_region_ltwo (B := w.heap.size) [0, 1, 5] [2, 6] [3, 4] [7] [8, 9] (Rw 5 1 (.slice A2 out2.length c2) out2.length (bytesU out2)) Emp (Bk X0 71 #[.string (str path), .int .i64 kind, .int .i64 mode, .int .i64 time, .string (str tgt), .int .i64 beg, .int .i64 size] * Emp) mixed (by kernel_rfl) rfl (fun _ _ _ _ _ h => h) hb.size ((ho.emp.cast (by ac_rfl)).drew hb.size) ?_
            simp only [List.filterMap_cons, List.filterMap_nil, List.getElem?_toArray, List.getElem?_cons_succ, List.getElem?_cons_zero]
            repeat (
              refine free_val ?_ rfl (fun w1 => ?_) ?_
              rotate_left
              · (go_simp
                 try go_bits
                 rfl)
              simp only [Act.put, List.setIfInBounds_toArray, List.set_cons_zero, List.set_cons_succ])
            refine free_nil ?_
            repeat (first
              | (refine late_val ?_ rfl (fun w1 hS => ?_) ?_
                 rotate_left
                 · (have c0 : w1.cell? ⟨X0, 0, none⟩ = some (.string (str path)) := hS.cell 0; have c4 : w1.cell? ⟨X0, 4, none⟩ = some (.string (str tgt)) := hS.cell 4
                    go_simp
                    try go_bits
                    rfl)
                 simp only [Act.put, List.setIfInBounds_toArray, List.set_cons_zero, List.set_cons_succ])
              | (refine late_off rfl ?_
                 simp only [Act.put, List.setIfInBounds_toArray, List.set_cons_zero, List.set_cons_succ]))
            refine late_nil ?_
            refine ⟨fun vs F => ∃ v3 out3 A3 c3, vs = [v3, .slice A3 out3.length c3] ∧ Hid (out3 = out2 ++ obytes path) ∧ F = Rw 5 1 (.slice A3 out3.length c3) out3.length (bytesU out3), fun vs F => ∃ A7 c7, vs = [.slice A7 tgt.length c7] ∧ F = Rdo (.slice A7 tgt.length c7) tgt, ?_, ?_, ?_⟩
            · simp only [opsOf, List.filterMap_cons, List.filterMap_nil, List.getElem?_toArray, List.getElem?_cons_succ, List.getElem?_cons_zero]
              refine tw_run (fun v F => ∃ A3 c3, v = .slice A3 path.length c3 ∧ F = (Rdo (.slice A3 path.length c3) path * Rw 5 1 (.slice A2 out2.length c2) out2.length (bytesU out2))) rfl (fun R1 _ w1 hB1 hS => ?_) ?_
              · obtain ⟨A3, c3, w3, hrun, o3, b3⟩ := conv_own hB1 hS path
                exact ⟨_, _, w3, exec_conv (.tmp 41) 9 32 rfl rfl hrun, ⟨inferInstance, A3, c3, rfl, rfl⟩, o3.assoc', b3⟩
              · rintro v3 F3 _ ⟨A3, c3, rfl, rfl⟩
                simp only [Act.put, List.setIfInBounds_toArray, List.set_cons_zero, List.set_cons_succ]
                refine tw_call 36 #[.slice A2 out2.length c2, .slice A3 path.length c3] (fun v F => ∃ (out3 : List UInt8) (A4 : Option Addr) (c4 : Nat), v = .slice A4 out3.length c4 ∧ Hid (out3 = out2 ++ obytes path) ∧ F = Rw 5 1 (.slice A4 out3.length c4) out3.length (bytesU out3)) rfl (fun R1 _ w1 hS => by go_simp) (fun R1 _ w1 hB1 hS => (obytes_ret (.slice A2 out2.length c2) (.slice A3 path.length c3) out2 path (by omega) (by omega) w1 (hS.assoc.right.rd) (hS.assoc.rdo)).mono ?_) ?_
                · rintro e w2 ⟨v1, rfl, ho1, b1⟩
                  obtain ⟨out3, A4, c4, he3, rfl, o4, b4⟩ := own_new hB1 (hS.assoc.right) ho1 b1
                  exact ⟨_, _, rfl, ⟨inferInstance, out3, A4, c4, rfl, he3, rfl⟩, o4, b4⟩
                · rintro v4 F4 _ ⟨out3, A4, c4, rfl, he3, rfl⟩
                  exact tw_nil ⟨_, out3, A4, c4, rfl, he3, rfl⟩
            · simp only [opsOf, List.filterMap_cons, List.filterMap_nil, List.getElem?_toArray, List.getElem?_cons_succ, List.getElem?_cons_zero]
              refine tw_run (fun v F => ∃ A3 c3, v = .slice A3 tgt.length c3 ∧ F = Rdo (.slice A3 tgt.length c3) tgt) rfl (fun R1 _ w1 hB1 hS => ?_) ?_
              · obtain ⟨A3, c3, w3, hrun, o3, b3⟩ := conv_own hB1 hS.right tgt
                exact ⟨_, _, w3, exec_conv (.tmp 45) 9 32 rfl rfl hrun, ⟨inferInstance, A3, c3, rfl, rfl⟩, o3, b3⟩
              · rintro v3 F3 _ ⟨A3, c3, rfl, rfl⟩
                exact tw_nil ⟨A3, c3, rfl, rfl⟩
            · rintro vs1 F1 vs2 F2 w4 ⟨v3, out3, A3, c3, rfl, he3, rfl⟩ ⟨A7, c7, rfl, rfl⟩ o4 b4
              simp only [opsOf, putAll, Act.put, List.filterMap_cons, List.filterMap_nil, List.getElem?_toArray, List.getElem?_cons_succ, List.getElem?_cons_zero, List.setIfInBounds_toArray, List.set_cons_zero, List.set_cons_succ]
              have hb4 := hb.trans b4
              have ho3 : out3.length = out2.length + (obytes path).length := by rw [he3.out, List.length_append]
              have N := obytes_ret (.slice A3 out3.length c3) (.slice A7 tgt.length c7) out3 tgt (by omega) (by omega) w4 o4.rd (o4.cast (sep_left_comm _ _ _)).rdo
              have o5 := (o4.cast (show _ = Rw 5 1 (.slice A3 out3.length c3) out3.length (bytesU out3) * (Rdo _ _ * (Bk X0 _ _ * Emp)) by ac_rfl))
              clear ho hb o4 b4 ho3
              go_wp2_with fail
              refine N.mono ?_
              rintro e w5 ⟨v1, rfl, ho1, b1⟩
              obtain ⟨out5, A5, c5, he5, rfl, o6, b6⟩ := own_new hb4.size o5 ho1 b1
              have hb6 := hb4.trans b6
              have o7 := (o6.cast (show _ = Rdo _ _ * (Bk X0 _ _ * (Rw _ _ _ _ _ * Emp)) by ac_rfl)).right.right
              clear N o5 hb4 o6 b6 ho1 b1
              go_wp2
              go_roundg j
              case measure => omega
              case rel =>
                have hfin : out5 = L0 ++ (l.take (i + 1)).flatMap encE := by
                  rw [he5.out, he3.out, he2.out, Hsn.out, Henc.out, he.out]
                  have : (numsE ⟨path, kind, mode, time, tgt, beg, size⟩).take 5 = numsE ⟨path, kind, mode, time, tgt, beg, size⟩ := rfl
                  rw [this]
                  simp only [List.append_assoc]
                exact ⟨i + 1, out5, A5, c5, by have := Hk.out; omega, rfl, rfl, o7, hb6, by
                  have h1 := congrArg List.length hfin
                  have h2 := congrArg List.length he.out
                  have h3 := Hlen.out
                  rw [Hsn.out] at h1
                  simp only [List.length_append] at h1 h2
                  omega, Lib.hid hfin⟩
      · obtain rfl : i = l.length := by omega
        rw [List.take_length] at he
        go_wp2
        go_ret2
        exact e0.out _ _ ⟨_, rfl, by rw [He.out, ← he.out]; exact ho.row, hb⟩
end Go.Proofs.YtmppagiaonbggaaDoor

/- What Plan of package source says; a plan's making; whole stores. -/
namespace Go.Proofs.YtmppagiaonbggaaDoor
set_option linter.unusedVariables false
set_option linter.unusedSimpArgs false
set_option maxRecDepth 100000
open Go.RowKit

theorem Own.setRow {B : Nat} {R : HP} [Loc B R] {w : World} {g : Nat} {t : TypeId} {cs : Array Value} (hB : B ≤ w.heap.size) (h : Own B (Bk g t cs * R) w) (ds : Array Value) :
    B ≤ (w.setRow g ds).heap.size ∧ Own B (Bk g t ds * R) (w.setRow g ds) ∧ Below B w (w.setRow g ds) := by
  have hsz : (w.setRow g ds).heap.size = w.heap.size := by simp [World.setRow]
  have hg := h.bk
  refine ⟨by rw [hsz]; exact hB, ?_, below_setRow (Below.refl B w) hg.2.1 ds⟩
  refine Own.turn hB h (by rw [hsz]; exact Nat.le_refl _) fun F _ ⟨hF, hh⟩ => ⟨fun k => k = g, fun k hk => .inl (hk ▸ hF), ⟨rfl, setRow_heap w g cs ds t (0, 0) hh⟩, fun k hk hn => ?_⟩
  exact setRow_other w g k ds (fun e => hn (e ▸ hF))

theorem dataLen_ents : ∀ (l : List Fi) (a : Int), sumS (entsFrom a l) = (dataLen l : Int)
  | [], _ => rfl
  | f :: l, a => by
    have := dataLen_ents l (a + f.data.length)
    simp only [entsFrom, sumS, List.map_cons, List.sum_cons, dataLen] at this ⊢
    rw [this]
    omega
theorem sumS_M : ∀ (l : List En), (∀ e ∈ l, plainP e) → sumM l = sumS l
  | [], _ => rfl
  | e :: l, h => by
    have := sumS_M l (fun x hx => h x (List.mem_cons_of_mem _ hx))
    have h1 := (h e List.mem_cons_self).2.2.2.2.1
    simp only [sumM, sumS, List.map_cons, List.sum_cons] at this ⊢
    rw [this]
    omega
theorem total_ents {l : List Fi} (h : whyE (ents l) = 0) : totalE (ents l) = (dataLen l : Int) ∧ dataLen l ≤ 4194304 := by
  have hf := fineB_ents h
  have hz := whyE_zero h
  have h1 : sumS (ents l) = (dataLen l : Int) := dataLen_ents l 0
  refine ⟨by unfold totalE; rw [if_pos hf]; exact h1, ?_⟩
  have h2 := hz.2.2.1
  rw [sumC_min, sumS_M _ hz.2.2.2, h1] at h2
  omega
theorem encL_le {l : List En} (h : fineB l = true) : (encL l).length ≤ 1000000 := by
  have hz := whyE_zero (fineB_true h).1
  have hn := fine_num h
  unfold encL
  rw [List.length_append, List.length_flatMap]
  have h1 := onumI_len (l.length : Int)
  have h2 : (l.map fun e => (encE e).length).sum ≤ 554 * l.length := by
    clear h hz h1
    induction l with
    | nil => simp
    | cons e l ih =>
      have h3 := encE_len (hn e List.mem_cons_self)
      have h4 := ih (fun x hx => hn x (List.mem_cons_of_mem _ hx))
      simp only [List.map_cons, List.sum_cons, List.length_cons]
      omega
  have h3 := hz.2.1
  have h4 : (l.map fun e => (encE e).length).sum = (l.map (fun a => (encE a).length)).sum := rfl
  omega

/-- The operation that builds a struct, met by its run. -/
theorem wpList_build_at {P : Program} {ops : Array Oper} {Q : Exit → Act → World → Prop} {rest : List Oper} {o : Oper} {a : Act} {w : World} (hgd : o.guard = none) (t : TypeId) (parts : Array (Nat × Operand)) (ps : Array (Nat × Value)) {v : Value}
    (ho : o.op = .build t parts) (hps : (parts.map fun x => (x.1, a.eval x.2)) = ps) (hr : (Instr.build t ps).run P w = .ok v w)
    (h : wpList P ops Q rest (a.put o.dst v) w) : wpList P ops Q (o :: rest) a w := by
  refine wpList_plain hgd fun K hK => ?_
  unfold Oper.wp execOp
  simp only [ho, hps, hr, Sem.run_bind, Sem.run_pure, Result.andThen_ok]
  exact hK _ _ h
def zeroPn : Pn := ⟨0, 0, 0, List.replicate 32 0⟩
theorem build_plan (ch wi tot : Int) (D : List UInt8) (hD : D.length = 32) (w : World) : (Instr.build 27 #[(0, .int .i64 ch), (1, .int .i64 wi), (2, .int .i64 tot), (3, .agg (bytesU D).toArray)]).run Tryd.prog w = .ok (.agg (pnL ⟨ch, wi, tot, D⟩).toArray) w := by
  match D, hD with
  | [d0, d1, d2, d3, d4, d5, d6, d7, d8, d9, d10, d11, d12, d13, d14, d15, d16, d17, d18, d19, d20, d21, d22, d23, d24, d25, d26, d27, d28, d29, d30, d31], _ =>
    exact run_build w _ _ _ (by kernel_rfl)
theorem build_plan0 (w : World) : (Instr.build 27 #[]).run Tryd.prog w = .ok (.agg (pnL zeroPn).toArray) w := run_build w _ _ _ (by kernel_rfl)
theorem pnL_one (p : Pn) : (pnL p).toArray.all (·.oneCell') = true := by simp [pnL, bytesU, Value.oneCell']
theorem zeroPn_dg : zeroPn.dg.length = 32 := rfl

/-- What Plan answers. -/
def okCW (ch wi : Int) : Prop := 1 ≤ ch ∧ ch ≤ 65536 ∧ 1 ≤ wi ∧ wi ≤ 32768
instance (ch wi : Int) : Decidable (okCW ch wi) := by unfold okCW; infer_instance
def planP (l : List Fi) (ch wi : Int) (p : Pn) (z : Int) : Prop :=
  p.dg.length = 32 ∧ (whyE (ents l) ≠ 0 → p = zeroPn ∧ z = whyE (ents l)) ∧ (whyE (ents l) = 0 → ¬ okCW ch wi → p = zeroPn ∧ z = 1) ∧ (whyE (ents l) = 0 → okCW ch wi → p.ch = ch ∧ p.wi = wi ∧ p.tot = (dataLen l : Int) ∧ z = 0)
theorem may_plan {l : List Fi} (h : whyE (ents l) = 0) (ch wi : Int) (D : List UInt8) : (Pn.mayB ⟨ch, wi, totalE (ents l), D⟩ = true ↔ okCW ch wi) := by
  have ht := total_ents h
  unfold Pn.mayB okCW
  rw [ht.1]
  simp only [Bool.and_eq_true, decide_eq_true_eq]
  omega
theorem dataL_le {l : List Fi} (h : whyE (ents l) = 0) : (dataL l).length ≤ 4194304 := by rw [dataL_length]; exact (total_ents h).2
end Go.Proofs.YtmppagiaonbggaaDoor

/- The walk over Plan of package source. -/
namespace Go.Proofs.YtmppagiaonbggaaDoor
set_option linter.unusedVariables false
set_option linter.unusedSimpArgs false
set_option maxRecDepth 100000
open Go.RowKit

def z35 : Array Value :=
  #[.int .i64 0, .int .i64 0, .int .i64 0, .int .u8 0, .int .u8 0, .int .u8 0, .int .u8 0, .int .u8 0, .int .u8 0, .int .u8 0, .int .u8 0, .int .u8 0, .int .u8 0, .int .u8 0, .int .u8 0, .int .u8 0, .int .u8 0, .int .u8 0, .int .u8 0, .int .u8 0, .int .u8 0, .int .u8 0, .int .u8 0, .int .u8 0, .int .u8 0, .int .u8 0, .int .u8 0, .int .u8 0, .int .u8 0, .int .u8 0, .int .u8 0, .int .u8 0, .int .u8 0, .int .u8 0, .int .u8 0]
theorem z35_eq : z35 = (pnL zeroPn).toArray := rfl
set_option maxHeartbeats 3200000 in
theorem plan_any (A : Option Addr) (c : Nat) (l : List (Fi × Value)) (hl : l.length ≤ 1000000) (hs : dataLen (l.map (·.1)) ≤ 1000000000) (ok : ∀ x ∈ l, x.1.ok) (ch wi : Int) (hch : okI ch) (hwi : okI wi) (w : World) (h : Sh w) (hr : RdF w A l) :
    Calls Tryd.prog 11 #[.slice A l.length c, .int .i64 ch, .int .i64 wi] w fun e w' => ∃ p z, planP (l.map (·.1)) ch wi p z ∧ e = .returned (.tuple #[.agg (pnL p).toArray, .int .i64 z]) ∧ Below w.heap.size w w' := by
  have hel : (ofE (l.map (·.1))).length ≤ 1000000 := by
    unfold ofE; split
    · unfold ents; rw [entsFrom_length, List.length_map]; exact hl
    · simp
  have Of := Lib.hid (fun w h hr => ofE_any A c l (by omega) (by omega) ok w h hr)
  have o0 := (Own.start w.heap.size w).new (Nat.le_refl _) 27 z35
  have b0 := (Below.refl w.heap.size w).alloc (Nat.le_refl _) (.cells z35 27)
  have hinf : (Tryd.prog.info? 27).map (·.size) = some z35.size := infoPlan
  by_cases hz : whyE (ents (l.map (·.1))) = 0
  · have he : ofE (l.map (·.1)) = ents (l.map (·.1)) := if_pos hz
    have hff := fineB_ents hz
    have ht := total_ents hz
    have hst : streamP (l.map (·.1)) = dataL (l.map (·.1)) := if_pos hz
    have hD := dataL_le hz
    have hE := encL_le hff
    have hk := ents_ok (l := l.map (·.1)) (by intro f hf; obtain ⟨x, hx, rfl⟩ := List.mem_map.1 hf; exact ok x hx) (by omega)
    have hmay := fun D => may_plan hz ch wi D
    have hP : Hid (∀ D : List UInt8, D.length = 32 → (okCW ch wi → planP (l.map (·.1)) ch wi ⟨ch, wi, totalE (ents (l.map (·.1))), D⟩ 0) ∧ (¬ okCW ch wi → planP (l.map (·.1)) ch wi zeroPn 1)) := Lib.hid (fun D hD =>
      ⟨fun h => ⟨hD, fun h2 => absurd hz h2, fun _ h2 => absurd h h2, fun _ _ => ⟨rfl, rfl, ht.1, rfl⟩⟩, fun h => ⟨rfl, fun h2 => absurd hz h2, fun _ _ => ⟨rfl, rfl⟩, fun _ h2 => absurd h2 h⟩⟩)
    have hmay := Lib.hid hmay
    have hto : okI (totalE (ents (l.map (·.1)))) := by rw [ht.1]; unfold okI; omega
    rw [he] at hel
    rw [he, hz] at Of
    have EC := Lib.hid (fun A c w h hr => encode_any A c (ents (l.map (·.1))) (by omega) (fun e he => (hk e he).1) (fun e he => (hk e he).2) w h hr)
    have TC := Lib.hid (fun A c w h hr => total_any A c (ents (l.map (·.1))) (by omega) (fun e he => (hk e he).1) (fun e he => (hk e he).2) w h hr)
    have SC := Lib.hid (fun w h hr => stream_any A c l hl hs ok w h hr)
    have BD := Lib.hid (fun (D : List UInt8) (hD : D.length = 32) w => body_any ⟨ch, wi, totalE (ents (l.map (·.1))), D⟩ ⟨hch, hwi, hto, hD⟩ w)
    have BP := Lib.hid (fun (D : List UInt8) (hD : D.length = 32) => build_plan ch wi (totalE (ents (l.map (·.1)))) D hD)
    have PS := Lib.hid (fun (D : List UInt8) (hD : D.length = 32) => pnL_size (p := ⟨ch, wi, totalE (ents (l.map (·.1))), D⟩) hD)
    have PO := Lib.hid (fun (D : List UInt8) => pnL_one ⟨ch, wi, totalE (ents (l.map (·.1))), D⟩)
    rw [hst] at SC
    have Hff := Lib.hid hff
    have Hh := Lib.hid (fun w1 (b : Below w.heap.size w w1) => sh_below h b)
    have Hr := Lib.hid (fun w1 (b : Below w.heap.size w w1) => hr.below b)
    have Hn := Lib.hid (And.intro hD hE)
    clear he ht hst hk hto hz hff hs ok h hr hD hE hl
    generalize totalE (ents (l.map (·.1))) = tot at *
    generalize ents (l.map (·.1)) = el at *
    generalize dataL (l.map (·.1)) = st at *
    go_enter Tryd.func11, Tryd.ntmps11
    go_wp2_with fail
    refine (Of.out _ (Hh.out _ b0) (Hr.out _ b0)).mono ?_
    rintro e w1 ⟨A1, c1, rfl, k1, r1, b1⟩
    have hB1 : w.heap.size ≤ (w.alloc (.cells z35 27)).heap.size := by simp
    have o1 := o0.grown hB1 b1
    have hb1 := b0.trans (b1.mono hB1)
    have R1 := Lib.hid (fun w2 (b : Below w1.heap.size w1 w2) => r1.below b)
    clear o0 b0 b1 r1 hB1 Of
    go_wp2_with fail
    refine (EC.out _ _ _ (Hh.out _ hb1) (R1.out _ (Below.refl _ _))).mono ?_
    rintro e w2 hE
    unfold EncP at hE
    rw [if_pos Hff.out] at hE
    obtain ⟨v2, rfl, h2, b2⟩ := hE
    generalize encL el = en at *
    have o2 := Own.fresh hb1.size o1 h2 b2
    obtain ⟨A2, c2, rfl⟩ := o2.row_n
    have hb2 := hb1.trans (b2.mono hb1.size)
    have R2 := Lib.hid (R1.out _ b2)
    clear h2 b2 o1 hb1 R1 EC
    go_wp2_with fail
    refine (TC.out _ _ _ (Hh.out _ hb2) R2.out).mono ?_
    rintro e w3 ⟨rfl, b3⟩
    have o3 := o2.grown hb2.size b3
    have hb3 := hb2.trans (b3.mono hb2.size)
    clear b3 o2 hb2 R2 TC
    go_wp2_with fail
    refine (SC.out _ (Hh.out _ hb3) (Hr.out _ hb3)).mono ?_
    rintro e w4 ⟨v4, rfl, h4, b4⟩
    have o4 := Own.fresh hb3.size o3 h4 b4
    obtain ⟨A4, c4, rfl⟩ := o4.row_n
    have hb4 := hb3.trans (b4.mono hb3.size)
    have o5 := o4.new hb4.size 32 #[.slice A2 en.length c2, .slice A4 st.length c4]
    have hb5 := hb4.alloc hb4.size (.cells #[.slice A2 en.length c2, .slice A4 st.length c4] 32)
    have hrp : RdP (w4.alloc (.cells #[.slice A2 en.length c2, .slice A4 st.length c4] 32)) (some ⟨w4.heap.size, 0, none⟩) [(.slice A2 en.length c2, en), (.slice A4 st.length c4, st)] := by
      refine ⟨fun j hj => ?_, fun x hx => ?_⟩
      · match j, hj with
        | 0, _ => exact ⟨_, _, rfl, by simp⟩
        | 1, _ => exact ⟨_, _, rfl, by simp⟩
      · simp only [List.mem_cons, List.not_mem_nil, or_false] at hx
        rcases hx with rfl | rfl
        · exact (o5.foc (Rw 5 1 (.slice A2 en.length c2) en.length (bytesU en))).rd
        · exact (o5.foc (Rw 5 1 (.slice A4 st.length c4) st.length (bytesU st))).rd
    have DC := Lib.hid (digest_any (some ⟨w4.heap.size, 0, none⟩) 2 [(.slice A2 en.length c2, en), (.slice A4 st.length c4, st)] (by simp) (by have := Hn.out; simp [joinP]; omega) _ (Hh.out _ hb5) hrp)
    have o5 := o5.foc (Bk w.heap.size 27 z35)
    clear h4 b4 o3 hb3 o4 hb4 hrp SC
    go_wp2_with fail
    refine DC.out.mono ?_
    rintro e w6 ⟨⟨D, hD, rfl⟩, b6⟩
    have o6 := o5.grown hb5.size b6
    have hb6 := hb5.trans (b6.mono hb5.size)
    have o7 := o6.new hb6.size 27 z35
    have hb7 := hb6.alloc hb6.size (.cells z35 27)
    have hbp := BP.out D hD
    have hps := PS.out D hD
    have hpo := PO.out D
    have hinf2 : (Tryd.prog.info? 27).map (·.size) = some (pnL ⟨ch, wi, tot, D⟩).toArray.size := by rw [hps]; exact infoPlan
    have hz35 : z35.size = (pnL ⟨ch, wi, tot, D⟩).toArray.size := by rw [hps]; rfl
    have hbd := BD.out D hD
    have HP := Lib.hid (hP.out D hD)
    have HM := Lib.hid (hmay.out D)
    obtain ⟨PA, hPA⟩ : ∃ X, X = (pnL ⟨ch, wi, tot, D⟩).toArray := ⟨_, rfl⟩
    have HPA := Lib.hid hPA
    rw [← hPA] at hbp hps hpo hinf2 hz35 hbd
    obtain ⟨B8, o8, b8⟩ := o7.setRow hb7.size PA
    have hb8 := hb7.trans b8
    have Hh7 := Lib.hid o7.bk.1
    have Hh8 := Lib.hid o8.bk.1
    have Hz := Lib.hid hz35
    have Hbd := Lib.hid hbd
    have Hpo := Lib.hid hpo
    have Hps := Lib.hid hps
    clear o5 hb5 b6 o6 hb6 o7 hb7 b8 DC hPA hD hz35 hpo hps hbd BD BP PS PO hmay hP
    generalize (bytesU D).toArray = DA at *
    have Hbp := Lib.hid hbp
    clear hbp
    go_wp2_with first
      | (refine wpList_build_at rfl 27 _ _ rfl (by simp only [List.map_toArray, List.map_cons, List.map_nil, Act.eval]; rfl) (Hbp.out _) ?_)
      | (refine wpList_plain rfl fun _ hK => wp_store_row 27 (.tmp 12) (.tmp 36) rfl w6.heap.size PA rfl rfl 27 _ Hh7.out hinf2 Hz.out Hpo.out (hK _ _ ?_))
      | (refine wpList_load_row rfl 27 (.tmp 12) rfl w6.heap.size rfl 27 PA (0, 0) _ Hh8.out Tryd.underlying27 rfl hinf2 ?_)
    by_cases hcw : okCW ch wi
    · have hbr : bodyR ⟨ch, wi, tot, D⟩ = (bodyP ⟨ch, wi, tot, D⟩, 0) := by unfold bodyR; rw [HM.out.2 hcw]; rfl
      have hfin := HP.out.1 hcw
      rw [hbr] at Hbd
      have Hpl := Lib.hid hfin
      clear hbr hfin HM HP hcw
      generalize bodyP ⟨ch, wi, tot, D⟩ = bp at *
      refine (Hbd.out _).mono ?_
      rintro e w9 ⟨A9, c9, rfl, _, _, b9⟩
      have o9 := o8.grown B8 b9
      have hb9 := hb8.trans (b9.mono B8)
      have o9' := o9.foc (Bk w.heap.size 27 z35)
      obtain ⟨B10, o10, b10⟩ := o9'.setRow hb9.size PA
      have Hh9 := Lib.hid o9.bk.1
      have Hh0 := Lib.hid o9'.bk.1
      have Hh10 := Lib.hid o10.bk.1
      have hb10 := hb9.trans b10
      clear o9 o9' o10 b10 o8 B8 b9 hb8 hb9 Hh7 Hh8 Hbd B10
      generalize bp.length = bpl at *
      go_wp2_with first
        | (refine wpList_load_row rfl 27 (.tmp 12) rfl w6.heap.size rfl 27 PA (0, 0) _ Hh9.out Tryd.underlying27 rfl hinf2 ?_)
        | (refine wpList_plain rfl fun _ hK => wp_store_row 27 (.tmp 6) (.tmp 46) rfl w.heap.size PA rfl rfl 27 _ Hh0.out hinf2 Hz.out Hpo.out (hK _ _ ?_))
      refine bodyPost_ret (results_cell_tmp rfl _ _ w.heap.size 27 PA (0, 0) _ rfl Hh10.out Tryd.underlying27 rfl hinf2) rfl ?_
      exact ⟨_, _, Hpl.out, by rw [← HPA.out]; rfl, hb10⟩
    · have hm : Pn.mayB ⟨ch, wi, tot, D⟩ = false := by
        cases h : Pn.mayB ⟨ch, wi, tot, D⟩ with
        | false => rfl
        | true => exact absurd (HM.out.1 h) hcw
      have hbr : bodyR ⟨ch, wi, tot, D⟩ = ([], 1) := by unfold bodyR; rw [hm]; rfl
      have hfin := HP.out.2 hcw
      rw [hbr] at Hbd
      have Hpl := Lib.hid hfin
      have h1c : z35.all (·.oneCell') = true := pnL_one zeroPn
      clear hbr hfin HM HP hcw hm
      refine (Hbd.out _).mono ?_
      rintro e w9 ⟨A9, c9, rfl, _, _, b9⟩
      have o9 := o8.grown B8 b9
      have hb9 := hb8.trans (b9.mono B8)
      have o9' := o9.foc (Bk w.heap.size 27 z35)
      obtain ⟨B10, o10, b10⟩ := o9'.setRow hb9.size z35
      have Hh0 := Lib.hid o9'.bk.1
      have Hh10 := Lib.hid o10.bk.1
      have hb10 := hb9.trans b10
      clear o9 o9' o10 b10 o8 B8 b9 hb8 hb9 Hh7 Hh8 Hbd B10
      go_wp2_with first
        | (refine wpList_plain rfl fun _ hK => wp_store_row 27 (.tmp 6) (.tmp 44) rfl w.heap.size z35 rfl rfl 27 _ Hh0.out hinf rfl h1c (hK _ _ ?_))
      refine bodyPost_ret (results_cell_tmp rfl _ _ w.heap.size 27 z35 (0, 0) _ rfl Hh10.out Tryd.underlying27 rfl hinf) rfl ?_
      exact ⟨zeroPn, _, Hpl.out, rfl, hb10⟩
  · have Hfin : Hid (planP (l.map (·.1)) ch wi zeroPn (whyE (ents (l.map (·.1))))) := Lib.hid ⟨rfl, fun _ => ⟨rfl, rfl⟩, fun h => absurd h hz, fun h => absurd h hz⟩
    have hz' : (whyE (ents (l.map (·.1))) == 0) = false := by simpa using hz
    have h1c : z35.all (·.oneCell') = true := pnL_one zeroPn
    clear hs
    generalize whyE (ents (l.map (·.1))) = z at *
    generalize ofE (l.map (·.1)) = el at *
    clear hz
    go_enter Tryd.func11, Tryd.ntmps11
    go_wp2_with fail
    refine (Of.out _ (sh_below h b0) (hr.below b0)).mono ?_
    rintro e w1 ⟨A1, c1, rfl, k1, r1, b1⟩
    have hB1 : w.heap.size ≤ (w.alloc (.cells z35 27)).heap.size := by simp
    have o1 := o0.grown hB1 b1
    have hb1 := b0.trans (b1.mono hB1)
    obtain ⟨B2, o2, b2⟩ := o1.setRow hb1.size z35
    have hb2 := hb1.trans b2
    have Hh1 := Lib.hid o1.bk.1
    have Hh2 := Lib.hid o2.bk.1
    clear o1 o0 b1 b0 r1 k1 o2 b2 hb1 hB1 Of h hr
    go_wp2_with first
      | (refine wpList_plain rfl fun _ hK => wp_store_row 27 (.tmp 6) (.tmp 20) rfl w.heap.size z35 rfl rfl 27 _ Hh1.out hinf rfl h1c (hK _ _ ?_))
    refine bodyPost_ret (results_cell_tmp rfl _ _ w.heap.size 27 z35 (0, 0) _ rfl Hh2.out Tryd.underlying27 rfl hinf) rfl ?_
    exact ⟨zeroPn, _, Hfin.out, rfl, hb2⟩
end Go.Proofs.YtmppagiaonbggaaDoor
