/- Texts of one proof, merged: XG3 XRa XG4 XRx XO0 XBit XO1 XQ4. -/
import Derived.Test.YtmppagiaonbggaaDoorWb
import Derived.Deep.MidRow
import Derived.Laws.CopyOwn
import Derived.Laws.Cover3
import Derived.Below
import Derived.Laws.Bits64b
import Derived.Laws.BitsLemmas
/- The walks over Start and Pad of package digest. -/
namespace Go.Proofs.YtmppagiaonbggaaDoor
set_option linter.unusedVariables false
set_option linter.unusedSimpArgs false
set_option maxRecDepth 100000
open Go.RowKit

theorem start_any (w : World) : Calls Tryd.prog 42 #[] w fun e w' => e = .returned (.agg #[.int .u32 1779033703, .int .u32 3144134277, .int .u32 1013904242, .int .u32 2773480762, .int .u32 1359893119, .int .u32 2600822924, .int .u32 528734635, .int .u32 1541459225]) ∧ Below w.heap.size w w' := by
  have o1 := (Own.start w.heap.size w).new (Nat.le_refl _) 79 #[.int .u32 0, .int .u32 0, .int .u32 0, .int .u32 0, .int .u32 0, .int .u32 0, .int .u32 0, .int .u32 0]
  have b1 := (Below.refl w.heap.size w).alloc (Nat.le_refl _) (.cells #[.int .u32 0, .int .u32 0, .int .u32 0, .int .u32 0, .int .u32 0, .int .u32 0, .int .u32 0, .int .u32 0] 79)
  obtain ⟨p, pb⟩ := o1.set8 b1.size (.int .u32 1779033703) (.int .u32 3144134277) (.int .u32 1013904242) (.int .u32 2773480762) (.int .u32 1359893119) (.int .u32 2600822924) (.int .u32 528734635) (.int .u32 1541459225)
  have o2 := (Own.start w.heap.size w).new (Nat.le_refl _) 79 #[.int .u32 1779033703, .int .u32 3144134277, .int .u32 1013904242, .int .u32 2773480762, .int .u32 1359893119, .int .u32 2600822924, .int .u32 528734635, .int .u32 1541459225]
  have b2 := (Below.refl w.heap.size w).alloc (Nat.le_refl _) (.cells #[.int .u32 1779033703, .int .u32 3144134277, .int .u32 1013904242, .int .u32 2773480762, .int .u32 1359893119, .int .u32 2600822924, .int .u32 528734635, .int .u32 1541459225] 79)
  go_enter Tryd.func42, Tryd.ntmps42
  go_wp2
  first
    | (refine bodyPost_ret (results_cell_row rfl _ _ w.heap.size 79 #[.int .u32 1779033703, .int .u32 3144134277, .int .u32 1013904242, .int .u32 2773480762, .int .u32 1359893119, .int .u32 2600822924, .int .u32 528734635, .int .u32 1541459225] (0, 0) _ rfl o2.bk.1 Tryd.underlying79 rfl (by kernel_rfl)) rfl ?_
       exact ⟨rfl, b2⟩)
    | (refine bodyPost_ret (results_cell_row rfl _ _ w.heap.size 79 #[.int .u32 1779033703, .int .u32 3144134277, .int .u32 1013904242, .int .u32 2773480762, .int .u32 1359893119, .int .u32 2600822924, .int .u32 528734635, .int .u32 1541459225] (0, 0) _ rfl p.bk.1 Tryd.underlying79 rfl (by kernel_rfl)) rfl ?_
       exact ⟨rfl, b1.trans pb⟩)

set_option maxHeartbeats 1600000 in
theorem pad_any (n : Nat) (hn : n ≤ 1099511627776) (w : World) : Calls Tryd.prog 41 #[.int .i64 (n : Int)] w fun e w' => ∃ l : List UInt8, (n + l.length) % 64 = 0 ∧ 1 ≤ l.length ∧ l.length ≤ 200 ∧ RetB w l e w' := by
  have o1 : Own w.heap.size (Rw 5 1 (.slice (some ⟨w.heap.size, 0, none⟩) 1 1) [(128 : UInt8)].length (bytesU [(128 : UInt8)]) * Emp) (w.alloc (.cells #[.int .u8 128] 5)) :=
    ((Own.start w.heap.size w).new (Nat.le_refl _) 5 #[.int .u8 128]).rw_of_bk (size := 1) (n := 1) rfl (by unfold maxLen; decide)
  have b1 := (Below.refl w.heap.size w).alloc (Nat.le_refl _) (.cells #[.int .u8 128] 5)
  obtain ⟨N, hN⟩ : ∃ N : Int, (n : Int) = N := ⟨_, rfl⟩
  have N0 : 0 ≤ N := by omega
  have N1 : N ≤ 1099511627776 := by omega
  obtain ⟨k0, hk0, hk1⟩ : ∃ k0, (n + 1 + 8 + k0) % 64 = 0 ∧ k0 < 64 := ⟨(64 - (n + 9) % 64) % 64, by omega, by omega⟩
  rw [hN]
  have HN := Lib.hid hN
  clear hN hn
  go_enter Tryd.func41, Tryd.ntmps41
  go_wp2
  go_loopg [3] k0 (fun kk v3 wr => ∃ (out : List UInt8) (A : Option Addr) (c : Nat), v3 = .slice A out.length c ∧ Hid ((n + out.length + 8 + kk) % 64 = 0 ∧ kk + out.length = k0 + 1 ∧ 1 ≤ out.length) ∧ Own w.heap.size (Rw 5 1 (.slice A out.length c) out.length (bytesU out) * Emp) wr ∧ Below w.heap.size w wr)
  case atStart => exact ⟨[128], _, 1, rfl, Lib.hid ⟨hk0, rfl, Nat.le_refl _⟩, o1, b1⟩
  case round =>
    clear o1 b1
    obtain ⟨out, A, c, rfl, he, ho, hb⟩ := hrel
    obtain ⟨h1, h2, h3⟩ := he.out
    have hn' := HN.out
    obtain ⟨m, hm⟩ : ∃ m : Int, (N + (out.length : Int) + 8) % 64 = m := ⟨_, rfl⟩
    by_cases h0 : gk = 0
    · subst h0
      have hm0 : m = 0 := by omega
      subst hm0
      have hr : (N + (out.length : Int) + 8).tmod 64 = 0 := by rw [Int.tmod_eq_emod_of_nonneg (by omega)]; exact hm
      have hL : (out.length : Int) ≤ 64 := by omega
      have Ho := Lib.hid (And.intro h1 (And.intro h2 h3))
      clear h1 h2 h3 he hn'
      go_wp2
      go_loopg [3, 4] 8 (fun kk v3 v4 wr => ∃ (o2 : List UInt8) (A : Option Addr) (c : Nat), kk ≤ 8 ∧ v3 = .slice A o2.length c ∧ v4 = .int .i64 ((kk : Int) - 1) ∧ Hid (o2.length + kk = out.length + 8) ∧ Own w.heap.size (Rw 5 1 (.slice A o2.length c) o2.length (bytesU o2) * Emp) wr ∧ Below w.heap.size w wr)
      case atStart => exact ⟨out, A, c, Nat.le_refl _, rfl, rfl, Lib.hid rfl, ho, hb⟩
      case round =>
        clear ho hb
        obtain ⟨o2, A, c, hk8, rfl, rfl, he2, ho, hb⟩ := hrel
        by_cases hg0 : gk = 0
        · subst hg0
          have hl2 := he2.out
          obtain ⟨g1, g2, g3⟩ := Ho.out
          have Fin : Hid ((n + o2.length) % 64 = 0 ∧ 1 ≤ o2.length ∧ o2.length ≤ 200) := Lib.hid (by omega)
          clear hl2 g1 g2 g3 he2
          have O := Lib.hid ho
          clear ho
          go_wp2
          go_ret
          exact ⟨o2, Fin.out.1, Fin.out.2.1, Fin.out.2.2, RetB.mk rfl rfl rfl rfl O.out hb⟩
        · obtain ⟨j, rfl⟩ : ∃ j, gk = j + 1 := ⟨gk - 1, by omega⟩
          have hj : ((j + 1 : Nat) : Int) - 1 = (j : Int) := by omega
          have hj8 : j < 8 := by omega
          rw [hj]
          have hsm := fun (u : UInt8) (z : Int) (hz : z = (u.toNat : Int)) => byte_snoc hb.size ho u z hz (by have := he2.out; omega)
          have Hoj := Lib.hid (fun (u : UInt8) => show (o2 ++ [u]).length + j = out.length + 8 by have := he2.out; rw [List.length_append]; simp only [List.length_singleton]; omega)
          have N8 : N * 8 < 18446744073709551616 := by omega
          clear he2
          match j, hj8 with
          | 0, _ =>
            have hu : ((N * 8 % 256 : Int)) = ((UInt8.ofNat (N * 8 % 256).toNat).toNat : Int) := by simp; omega
            obtain ⟨g, cap, w2, hrun, o3, b3⟩ := hsm (UInt8.ofNat (N * 8 % 256).toNat) (N * 8 % 256) hu
            have Hrun := Lib.hid hrun
            have hb3 := hb.trans b3
            have Hl := Lib.hid (Hoj.out (UInt8.ofNat (N * 8 % 256).toNat))
            clear hsm Hoj hrun ho hb b3 hu
            generalize o2 ++ [UInt8.ofNat (N * 8 % 256).toNat] = o4 at *
            go_wp2_with (at_builtin; refine wpList_append_run rfl (.tmp 22) (.tmp 30) 32 rfl rfl rfl Hrun.out ?_)
            go_roundg 0
            case measure => omega
            case rel => exact ⟨o4, _, _, by omega, rfl, by rfl, Lib.hid Hl.out, o3, hb3⟩
          | 1, _ =>
            have hu : ((N * 8 / 256 % 256 : Int)) = ((UInt8.ofNat (N * 8 / 256 % 256).toNat).toNat : Int) := by simp; omega
            obtain ⟨g, cap, w2, hrun, o3, b3⟩ := hsm (UInt8.ofNat (N * 8 / 256 % 256).toNat) (N * 8 / 256 % 256) hu
            have Hrun := Lib.hid hrun
            have hb3 := hb.trans b3
            have Hl := Lib.hid (Hoj.out (UInt8.ofNat (N * 8 / 256 % 256).toNat))
            clear hsm Hoj hrun ho hb b3 hu
            generalize o2 ++ [UInt8.ofNat (N * 8 / 256 % 256).toNat] = o4 at *
            go_wp2_with (at_builtin; refine wpList_append_run rfl (.tmp 22) (.tmp 30) 32 rfl rfl rfl Hrun.out ?_)
            go_roundg 1
            case measure => omega
            case rel => exact ⟨o4, _, _, by omega, rfl, by rfl, Lib.hid Hl.out, o3, hb3⟩
          | 2, _ =>
            have hu : ((N * 8 / 65536 % 256 : Int)) = ((UInt8.ofNat (N * 8 / 65536 % 256).toNat).toNat : Int) := by simp; omega
            obtain ⟨g, cap, w2, hrun, o3, b3⟩ := hsm (UInt8.ofNat (N * 8 / 65536 % 256).toNat) (N * 8 / 65536 % 256) hu
            have Hrun := Lib.hid hrun
            have hb3 := hb.trans b3
            have Hl := Lib.hid (Hoj.out (UInt8.ofNat (N * 8 / 65536 % 256).toNat))
            clear hsm Hoj hrun ho hb b3 hu
            generalize o2 ++ [UInt8.ofNat (N * 8 / 65536 % 256).toNat] = o4 at *
            go_wp2_with (at_builtin; refine wpList_append_run rfl (.tmp 22) (.tmp 30) 32 rfl rfl rfl Hrun.out ?_)
            go_roundg 2
            case measure => omega
            case rel => exact ⟨o4, _, _, by omega, rfl, by rfl, Lib.hid Hl.out, o3, hb3⟩
          | 3, _ =>
            have hu : ((N * 8 / 16777216 % 256 : Int)) = ((UInt8.ofNat (N * 8 / 16777216 % 256).toNat).toNat : Int) := by simp; omega
            obtain ⟨g, cap, w2, hrun, o3, b3⟩ := hsm (UInt8.ofNat (N * 8 / 16777216 % 256).toNat) (N * 8 / 16777216 % 256) hu
            have Hrun := Lib.hid hrun
            have hb3 := hb.trans b3
            have Hl := Lib.hid (Hoj.out (UInt8.ofNat (N * 8 / 16777216 % 256).toNat))
            clear hsm Hoj hrun ho hb b3 hu
            generalize o2 ++ [UInt8.ofNat (N * 8 / 16777216 % 256).toNat] = o4 at *
            go_wp2_with (at_builtin; refine wpList_append_run rfl (.tmp 22) (.tmp 30) 32 rfl rfl rfl Hrun.out ?_)
            go_roundg 3
            case measure => omega
            case rel => exact ⟨o4, _, _, by omega, rfl, by rfl, Lib.hid Hl.out, o3, hb3⟩
          | 4, _ =>
            have hu : ((N * 8 / 4294967296 % 256 : Int)) = ((UInt8.ofNat (N * 8 / 4294967296 % 256).toNat).toNat : Int) := by simp; omega
            obtain ⟨g, cap, w2, hrun, o3, b3⟩ := hsm (UInt8.ofNat (N * 8 / 4294967296 % 256).toNat) (N * 8 / 4294967296 % 256) hu
            have Hrun := Lib.hid hrun
            have hb3 := hb.trans b3
            have Hl := Lib.hid (Hoj.out (UInt8.ofNat (N * 8 / 4294967296 % 256).toNat))
            clear hsm Hoj hrun ho hb b3 hu
            generalize o2 ++ [UInt8.ofNat (N * 8 / 4294967296 % 256).toNat] = o4 at *
            go_wp2_with (at_builtin; refine wpList_append_run rfl (.tmp 22) (.tmp 30) 32 rfl rfl rfl Hrun.out ?_)
            go_roundg 4
            case measure => omega
            case rel => exact ⟨o4, _, _, by omega, rfl, by rfl, Lib.hid Hl.out, o3, hb3⟩
          | 5, _ =>
            have hu : ((N * 8 / 1099511627776 : Int)) = ((UInt8.ofNat (N * 8 / 1099511627776).toNat).toNat : Int) := by simp; omega
            obtain ⟨g, cap, w2, hrun, o3, b3⟩ := hsm (UInt8.ofNat (N * 8 / 1099511627776).toNat) (N * 8 / 1099511627776) hu
            have Hrun := Lib.hid hrun
            have hb3 := hb.trans b3
            have Hl := Lib.hid (Hoj.out (UInt8.ofNat (N * 8 / 1099511627776).toNat))
            clear hsm Hoj hrun ho hb b3 hu
            generalize o2 ++ [UInt8.ofNat (N * 8 / 1099511627776).toNat] = o4 at *
            go_wp2_with (at_builtin; refine wpList_append_run rfl (.tmp 22) (.tmp 30) 32 rfl rfl rfl Hrun.out ?_)
            go_roundg 5
            case measure => omega
            case rel => exact ⟨o4, _, _, by omega, rfl, by rfl, Lib.hid Hl.out, o3, hb3⟩
          | 6, _ =>
            have hu : ((N * 8 / 281474976710656 : Int)) = ((UInt8.ofNat (N * 8 / 281474976710656).toNat).toNat : Int) := by simp; omega
            obtain ⟨g, cap, w2, hrun, o3, b3⟩ := hsm (UInt8.ofNat (N * 8 / 281474976710656).toNat) (N * 8 / 281474976710656) hu
            have Hrun := Lib.hid hrun
            have hb3 := hb.trans b3
            have Hl := Lib.hid (Hoj.out (UInt8.ofNat (N * 8 / 281474976710656).toNat))
            clear hsm Hoj hrun ho hb b3 hu
            generalize o2 ++ [UInt8.ofNat (N * 8 / 281474976710656).toNat] = o4 at *
            go_wp2_with (at_builtin; refine wpList_append_run rfl (.tmp 22) (.tmp 30) 32 rfl rfl rfl Hrun.out ?_)
            go_roundg 6
            case measure => omega
            case rel => exact ⟨o4, _, _, by omega, rfl, by rfl, Lib.hid Hl.out, o3, hb3⟩
          | 7, _ =>
            have hu : ((N * 8 / 72057594037927936 : Int)) = ((UInt8.ofNat (N * 8 / 72057594037927936).toNat).toNat : Int) := by simp; omega
            obtain ⟨g, cap, w2, hrun, o3, b3⟩ := hsm (UInt8.ofNat (N * 8 / 72057594037927936).toNat) (N * 8 / 72057594037927936) hu
            have Hrun := Lib.hid hrun
            have hb3 := hb.trans b3
            have Hl := Lib.hid (Hoj.out (UInt8.ofNat (N * 8 / 72057594037927936).toNat))
            clear hsm Hoj hrun ho hb b3 hu
            generalize o2 ++ [UInt8.ofNat (N * 8 / 72057594037927936).toNat] = o4 at *
            go_wp2_with (at_builtin; refine wpList_append_run rfl (.tmp 22) (.tmp 30) 32 rfl rfl rfl Hrun.out ?_)
            go_roundg 7
            case measure => omega
            case rel => exact ⟨o4, _, _, by omega, rfl, by rfl, Lib.hid Hl.out, o3, hb3⟩
    · obtain ⟨j, rfl⟩ : ∃ j, gk = j + 1 := ⟨gk - 1, by omega⟩
      have hm1 : (m == 0) = false := by rw [beq_eq_false_iff_ne]; omega
      have hm2 : (m != 0) = true := by simpa using hm1
      have hL : (out.length : Int) ≤ 64 := by omega
      have hr : (N + (out.length : Int) + 8).tmod 64 = m := by rw [Int.tmod_eq_emod_of_nonneg (by omega)]; exact hm
      obtain ⟨g, cap, w2, hrun, o2, b2⟩ := byte_snoc hb.size ho (0 : UInt8) 0 rfl (by omega)
      have Hrun := Lib.hid hrun
      have hb2 := hb.trans b2
      have Hl : Hid ((n + (out ++ [(0 : UInt8)]).length + 8 + j) % 64 = 0 ∧ j + (out ++ [(0 : UInt8)]).length = k0 + 1 ∧ 1 ≤ (out ++ [(0 : UInt8)]).length) := Lib.hid (by rw [List.length_append]; simp only [List.length_singleton]; omega)
      clear hrun b2 h1 h2 h3 hn' he ho hb
      generalize out ++ [(0 : UInt8)] = out2 at *
      go_wp2_with (at_builtin; refine wpList_append_run rfl (.tmp 15) (.tmp 16) 32 rfl rfl rfl Hrun.out ?_)
      go_roundg j
      case measure => omega
      case rel => exact ⟨out2, _, _, rfl, Hl, o2, hb2⟩
end Go.Proofs.YtmppagiaonbggaaDoor

/- A byte at a place of bytes that one can read. -/
namespace Go.Proofs.YtmppagiaonbggaaDoor
set_option linter.unusedVariables false
set_option linter.unusedSimpArgs false
set_option maxRecDepth 100000
open Go.RowKit

theorem Rd.at {w : World} {A : Option Addr} {n c : Nat} {l : List UInt8} (h : Rd w (.slice A n c) (bytesU l)) (i : Nat) (hi : i < l.length) : ∃ ad, A = some ad ∧ w.cell? (ad.add i) = some (.int .u8 (l[i].toNat : Int)) := by
  obtain ⟨A', c', hv, hrd⟩ := h
  injection hv with e1 e2 e3
  subst e1
  obtain ⟨ad, rfl, hc⟩ := hrd (by intro e; rw [← List.length_eq_zero_iff, bytesU_length] at e; omega)
  exact ⟨ad, rfl, hc i _ (by simp [bytesU, hi])⟩
theorem Rd.at' {w : World} {A : Option Addr} {n c : Nat} {l : List UInt8} (h : Rd w (.slice A n c) (bytesU l)) (i : Nat) (hi : i < l.length) : ∃ b0 o0, A = some ⟨b0, o0, none⟩ ∧ w.cell? ⟨b0, o0 + i, none⟩ = some (.int .u8 (l[i].toNat : Int)) := by
  obtain ⟨⟨b0, o0, sp⟩, h1, hc⟩ := h.at i hi
  obtain ⟨ad', h2, hc'⟩ := h.at 0 (by omega)
  rw [h1] at h2
  cases h2
  have hs := World.cell?_spot hc'
  have hsp : sp = none := by simpa [Addr.add] using hs
  subst hsp
  rw [Addr.add_lit] at hc
  exact ⟨b0, o0, h1, hc⟩
end Go.Proofs.YtmppagiaonbggaaDoor

/- The walk over Of of package digest: it ends, with thirty-two bytes. -/
namespace Go.Proofs.YtmppagiaonbggaaDoor
set_option linter.unusedVariables false
set_option linter.unusedSimpArgs false
set_option maxRecDepth 100000
open Go.RowKit

/-- Parts of bytes, as they lie. -/
def RdP (w : World) (A : Option Addr) (vs : List (Value × List UInt8)) : Prop := (∀ j (h : j < vs.length), ∃ b off, A = some ⟨b, off, none⟩ ∧ w.cell? ⟨b, off + j, none⟩ = some vs[j].1) ∧ ∀ x ∈ vs, Rd w x.1 (bytesU x.2)
theorem RdP.below {w w' : World} {A : Option Addr} {vs : List (Value × List UInt8)} (h : RdP w A vs) (hb : Below w.heap.size w w') : RdP w' A vs :=
  ⟨fun j hj => let ⟨b, off, ha, hc⟩ := h.1 j hj; ⟨b, off, ha, (World.cell?_of_block (w := w) (w' := w') (a := ⟨b, off + j, none⟩) (hb.block b (World.block_lt_of_cell? w _ hc))).trans hc⟩, fun x hx => (h.2 x hx).below hb⟩
def joinP (vs : List (Value × List UInt8)) : List UInt8 := vs.flatMap (·.2)
theorem joinP_take (vs : List (Value × List UInt8)) (i : Nat) (h : i < vs.length) : joinP (vs.take (i + 1)) = joinP (vs.take i) ++ vs[i].2 := by
  unfold joinP
  rw [List.take_succ_eq_append_getElem h, List.flatMap_append]
  simp
theorem joinP_le (vs : List (Value × List UInt8)) (i : Nat) : (joinP (vs.take i)).length ≤ (joinP vs).length := by
  have : joinP vs = joinP (vs.take i) ++ joinP (vs.drop i) := by unfold joinP; rw [← List.flatMap_append, List.take_append_drop]
  rw [this, List.length_append]
  omega

def nums (l : List UInt8) : List Int := l.map fun c => (c.toNat : Int)
theorem load_chunk (b0 o0 : Nat) (rest : List UInt8) (c3 : Nat) (h64 : 64 ≤ rest.length) (W : World) (hrd : Rd W (.slice (some ⟨b0, o0, none⟩) rest.length c3) (bytesU rest)) :
    (Instr.loadAt 82 (.pointer (some ⟨b0, o0, none⟩))).run Tryd.prog W = .ok (.agg (u8A (nums (rest.take 64)))) W := by
  have hinf : (Tryd.prog.info? 82).map (·.size) = some (bytesU (rest.take 64)).length := by rw [bytesU_length, List.length_take, Nat.min_eq_left h64]; kernel_rfl
  have e : u8A (nums (rest.take 64)) = (bytesU (rest.take 64)).toArray := by unfold u8A nums bytesU; rw [List.map_map]; rfl
  rw [e]
  refine run_loadAt_mid (P := Tryd.prog) W b0 o0 82 (bytesU (rest.take 64)) _ ?_ Tryd.underlying82 rfl hinf
  intro j u hu
  obtain ⟨A', c', hv, hr⟩ := hrd
  injection hv with e1 _ _
  subst e1
  obtain ⟨ad, had, hc⟩ := hr (by intro e; rw [← List.length_eq_zero_iff, bytesU_length] at e; omega)
  cases had
  have := hc j u (by
    unfold bytesU at hu ⊢
    rw [List.map_take, List.getElem?_take] at hu
    split at hu
    · exact hu
    · cases hu)
  rwa [Addr.add_lit] at this
theorem rd_drop64 {w : World} {b0 o0 c3 : Nat} {rest : List UInt8} (h : Rd w (.slice (some ⟨b0, o0, none⟩) rest.length c3) (bytesU rest)) (hc : c3 ≠ 64) (h64 : 64 ≤ rest.length) :
    Rd w (.slice (some ⟨b0, o0 + 64, none⟩) (rest.drop 64).length (c3 - 64)) (bytesU (rest.drop 64)) := by
  obtain ⟨A', c', hv, hr⟩ := h
  injection hv with e1 _ _
  subst e1
  refine ⟨_, c3 - 64, by rw [bytesU_length], fun _ => ⟨_, rfl, fun j u hu => ?_⟩⟩
  obtain ⟨ad, had, hc⟩ := hr (by intro e; rw [← List.length_eq_zero_iff, bytesU_length] at e; omega)
  cases had
  have := hc (64 + j) u (by
    unfold bytesU at hu ⊢
    rw [List.map_drop, List.getElem?_drop] at hu
    exact hu)
  rw [Addr.add_lit] at this ⊢
  rw [Nat.add_assoc]
  exact this
theorem exec_load {P : Program} {a : Act} {o : Oper} {w : World} {ty : TypeId} {x : Operand} {pv v : Value} (ho : o.op = .load ty x) (hx : a.eval x = pv) (h : (Instr.loadAt ty pv).run P w = .ok v w) : (execOp a.eval o).run P w = .ok (.value v) w := by
  unfold execOp
  simp only [ho, hx, Sem.run_bind, h, Result.andThen_ok, Sem.run_pure]
theorem u8A_set (l : List Int) (i : Nat) (z : Int) : (u8A l).setIfInBounds i (.int .u8 z) = u8A (l.set i z) := by simp [u8A, List.map_set]
theorem index8 (T : List Int) (hT : T.length = 8) (i : Nat) (hi : i < 8) (w : World) : (Instr.index 79 (.agg (u32A T)) (.int .i64 (i : Int))).run Tryd.prog w = .ok (.int .u32 (T.getD i 0)) w := by
  have h := Tryd.underlying79
  have hc : Tryd.prog.cellsOf 78 = 1 := by kernel_rfl
  have hb : (0 : Int) ≤ (i : Int) ∧ (i : Int) < 8 := by omega
  have hu := Tryd.underlying78
  have hg := u32A_getD T i (by omega)
  rw [List.getD_eq_getElem?_getD] at hg
  simp [Instr.index, run_underlying h, asIntOf, hb, go_sem, hi, hg]
/-- Thirty-two numbers that are bytes. -/
def By32 (l : List Int) : Prop := l.length = 32 ∧ ∀ c ∈ l, 0 ≤ c ∧ c < 256
theorem By32.zero : By32 (List.replicate 32 0) := ⟨by simp, fun c hc => by rw [List.eq_of_mem_replicate hc]; decide⟩
theorem By32.set {l : List Int} (h : By32 l) {q : Nat} (z : Int) (hz : 0 ≤ z ∧ z < 256) : By32 (l.set q z) :=
  ⟨by rw [List.length_set]; exact h.1, fun c hc => by
    rcases List.mem_or_eq_of_mem_set hc with h1 | h1
    · exact h.2 c h1
    · rw [h1]; exact hz⟩
theorem By32.bytes {l : List Int} (h : By32 l) : ∃ D : List UInt8, D.length = 32 ∧ u8A l = (bytesU D).toArray := by
  refine ⟨l.map fun c => UInt8.ofNat c.toNat, by rw [List.length_map]; exact h.1, ?_⟩
  have h2 := h.2
  clear h
  unfold u8A bytesU
  rw [List.map_map]
  congr 1
  refine List.map_congr_left fun c hc => ?_
  have := h2 c hc
  show Value.int .u8 c = Value.int .u8 ((UInt8.ofNat c.toNat).toNat : Int)
  have h8 : (UInt8.ofNat c.toNat).toNat = c.toNat := by simp; omega
  rw [h8]
  congr 1
  omega
set_option maxHeartbeats 1600000 in
theorem digest_any (A : Option Addr) (c : Nat) (vs : List (Value × List UInt8)) (hn : vs.length ≤ 1000000) (hl : (joinP vs).length ≤ 1000000000) (w : World) (hsh : Sh w) (hr : RdP w A vs) :
    Calls Tryd.prog 26 #[.slice A vs.length c] w fun e w' => (∃ D : List UInt8, D.length = 32 ∧ e = .returned (.agg (bytesU D).toArray)) ∧ Below w.heap.size w w' := by
  obtain ⟨T, hTl, hT⟩ := table_any hsh
  have hpos : 0 < w.heap.size := (Array.getElem?_eq_some_iff.1 hT).1
  have HT := Lib.hid (fun W (h : Below w.heap.size w W) => (h.block 0 hpos).trans hT)
  have HTl := Lib.hid hTl
  have Hr := Lib.hid (fun W (h : Below w.heap.size w W) => hr.below h)
  have o0 := (Own.start w.heap.size w).new (Nat.le_refl _) 25 (u8A (List.replicate 32 0))
  have b0 := (Below.refl w.heap.size w).alloc (Nat.le_refl _) (.cells (u8A (List.replicate 32 0)) 25)
  have o1 := o0.rw_nil 5 1
  have n1 : (vs.length : Int) ≤ 1000000 := by omega
  have Hl := Lib.hid hl
  clear hr hT hTl hsh hpos o0 hl
  go_enter Tryd.func26, Tryd.ntmps26
  go_wp2
  generalize hX0 : w.heap.size = X0 at *
  go_loopg [3, 13] vs.length (fun kk v3 v13 wr => ∃ (i : Nat) (out : List UInt8) (A' : Option Addr) (c' : Nat), kk + i = vs.length ∧ v13 = .int .i64 (i : Int) ∧ v3 = .slice A' out.length c' ∧ Hid (out = joinP (vs.take i)) ∧ Own X0 (Rw 5 1 (.slice A' out.length c') out.length (bytesU out) * (Bk X0 25 (u8A (List.replicate 32 0)) * Emp)) wr ∧ Below X0 w wr)
  case atStart => exact ⟨0, [], none, 0, by omega, rfl, rfl, Lib.hid rfl, o1, b0⟩
  case round =>
    clear o1 b0
    obtain ⟨i, out, A', c', hk, rfl, rfl, he, ho, hb⟩ := hrel
    have i0 : (0 : Int) ≤ (i : Int) := by omega
    have Bw : X0 ≤ wr.heap.size := by rw [← hX0]; exact hb.size
    by_cases hlt : (i : Int) < (vs.length : Int)
    · obtain ⟨j, rfl⟩ : ∃ j, gk = j + 1 := ⟨gk - 1, by omega⟩
      have hil : i < vs.length := by omega
      obtain ⟨b, off, rfl, hc⟩ := (Hr.out wr hb).1 i hil
      have hrd := (Hr.out wr hb).2 _ (List.getElem_mem hil)
      have hjt := joinP_take vs i hil
      have hle := joinP_le vs (i + 1)
      have hlen := Hl.out
      rw [hjt, ← he.out, List.length_append] at hle
      obtain ⟨Av, cv, hv⟩ : ∃ A c, vs[i].1 = .slice A vs[i].2.length c := by obtain ⟨A, c, h, _⟩ := hrd; exact ⟨A, c, by rw [h, bytesU_length]⟩
      rw [hv] at hc hrd
      obtain ⟨v', w', hrun, o2, b2⟩ := byte_append Bw ho hrd (by omega)
      have Hrun := Lib.hid hrun
      have hb2 := hb.trans b2
      have He := Lib.hid (show out ++ vs[i].2 = joinP (vs.take (i + 1)) by rw [hjt, ← he.out])
      have Hk := Lib.hid hk
      obtain ⟨A2, c2, rfl⟩ := o2.row_n
      clear hrun b2 hrd hjt hle hlen hv he ho hb hk
      generalize vs[i].2 = xs at *
      generalize out ++ xs = out2 at *
      go_wp2_with (at_builtin; refine wpList_append_run rfl (.tmp 17) (.tmp 18) 32 rfl rfl rfl Hrun.out ?_)
      go_roundg j
      case measure => omega
      case rel => exact ⟨i + 1, out2, _, _, by have := Hk.out; omega, rfl, rfl, He, o2, hb2⟩
    · have hlo : out.length ≤ 1000000000 := by
        have h1 := he.out
        rw [List.take_of_length_le (by omega)] at h1
        rw [h1]; exact Hl.out
      have HPad := Lib.hid (pad_any out.length (by omega) wr)
      have lo : (out.length : Int) ≤ 1000000000 := by omega
      clear he hk hlo
      go_wp2_with fail
      refine HPad.out.mono ?_
      rintro e w1 ⟨l, hl64, hl1, hl200, v1, rfl, o1, b1⟩
      have oP := Own.fresh Bw ho o1 b1
      have hb1 := hb.trans (b1.mono Bw)
      have B1 := Nat.le_trans Bw b1.size
      obtain ⟨A1, c1, rfl⟩ := oP.row_n
      obtain ⟨v', w2, hrun, o2, b2⟩ := byte_append B1 (oP.foc (Rw 5 1 (.slice A' out.length c') out.length (bytesU out))) oP.rd (by omega)
      have Hrun := Lib.hid hrun
      have hb2 := hb1.trans b2
      have B2 := Nat.le_trans B1 b2.size
      have h64 : (out ++ l).length % 64 = 0 := by rw [List.length_append]; exact hl64
      have hlen : (out ++ l).length ≤ 1000000200 := by rw [List.length_append]; omega
      have HSt := Lib.hid (start_any w2)
      have o2 := o2.cast (show _ = Rw 5 1 v' (out ++ l).length (bytesU (out ++ l)) * (Bk X0 25 (u8A (List.replicate 32 0)) * (Rw 5 1 (.slice A1 l.length c1) l.length (bytesU l) * Emp)) by ac_rfl)
      obtain ⟨A2, c2, rfl⟩ := o2.row_n
      have Hb64 := Lib.hid (And.intro h64 hlen)
      clear hrun b2 o1 b1 oP hl64 hl1 hl200 h64 hlen ho hb hb1 HPad B1
      generalize out ++ l = bb at *
      go_wp2_with first
        | (at_builtin; refine wpList_append_run rfl (.tmp 21) (.tmp 24) 32 rfl rfl rfl Hrun.out ?_)
      refine HSt.out.mono ?_
      rintro e w3 ⟨rfl, b3⟩
      have o3 := o2.grown B2 b3
      have hb3 := hb2.trans (b3.mono B2)
      have r3 := o3.rd
      have cap3 := o3.cap
      have M0 : Below w3.heap.size w3 w3 := Below.refl _ _
      have o6 := (Own.start w3.heap.size w3).new (Nat.le_refl _) 79 #[.int .u32 1779033703, .int .u32 3144134277, .int .u32 1013904242, .int .u32 2773480762, .int .u32 1359893119, .int .u32 2600822924, .int .u32 528734635, .int .u32 1541459225]
      have b6 := M0.alloc (Nat.le_refl _) (.cells #[.int .u32 1779033703, .int .u32 3144134277, .int .u32 1013904242, .int .u32 2773480762, .int .u32 1359893119, .int .u32 2600822924, .int .u32 528734635, .int .u32 1541459225] 79)
      obtain ⟨g1, g2⟩ := Hb64.out
      have HT3 := Lib.hid (fun W (h : Below w3.heap.size w3 W) => HT.out W (hb3.trans (h.mono (by rw [← hX0]; exact hb3.size))))
      have R3 := Lib.hid (And.intro r3 cap3)
      clear o2 b3 B2 hb2 HSt M0 r3 cap3 Hb64 HT
      go_wp2
      generalize hM : w3.heap.size = M at *
      go_loopg [3] bb.length (fun kk v3 wr => ∃ (rest : List UInt8) (A3 : Option Addr) (c3 : Nat) (a0 a1 a2 a3 a4 a5 a6 a7 : Int), kk = rest.length ∧ v3 = .slice A3 rest.length c3 ∧ (rest.length ≤ c3 ∧ c3 ≤ 9223372036854775807) ∧ rest.length % 64 = 0 ∧ rest.length ≤ 1000000200 ∧ Hid (Rd w3 (.slice A3 rest.length c3) (bytesU rest)) ∧ Own M (Bk M 79 #[.int .u32 a0, .int .u32 a1, .int .u32 a2, .int .u32 a3, .int .u32 a4, .int .u32 a5, .int .u32 a6, .int .u32 a7] * Emp) wr ∧ Below M w3 wr)
      case atStart => exact ⟨bb, _, _, _, _, _, _, _, _, _, _, rfl, rfl, R3.out.2, g1, g2, Lib.hid R3.out.1, o6, b6⟩
      case round =>
        clear o6 b6 R3 g1 g2
        obtain ⟨rest, A3, c3, a0, a1, a2, a3, a4, a5, a6, a7, rfl, rfl, hcap, h64, hlen, hR, ho, hb⟩ := hrel
        have Bw : M ≤ wr.heap.size := by rw [← hM]; exact hb.size
        by_cases hlt : (0 : Int) < (rest.length : Int)
        · have h64le : 64 ≤ rest.length := by omega
          have hrd := hR.out.below (hM ▸ hb)
          obtain ⟨b0, o0, rfl, _⟩ := hrd.at' 0 (by omega)
          have n64 : (64 : Int) ≤ (rest.length : Int) := by omega
          have hinf : (Tryd.prog.info? 82).map (·.size) = some (bytesU (rest.take 64)).length := by rw [bytesU_length, List.length_take, Nat.min_eq_left h64le]; kernel_rfl
          have Hld := Lib.hid (fun W (h : Below M w3 W) => load_chunk b0 o0 rest c3 h64le W (hR.out.below (hM ▸ h)))
          have hxl : (nums (rest.take 64)).length = 64 := by unfold nums; rw [List.length_map, List.length_take]; omega
          have hxb : byteL (nums (rest.take 64)) := by
            intro c hc
            obtain ⟨u, _, rfl⟩ := List.mem_map.1 hc
            have := u.toNat_lt
            omega
          have HBl := Lib.hid (fun W (h : Below M w3 W) => block_any a0 a1 a2 a3 a4 a5 a6 a7 (nums (rest.take 64)) hxl hxb T HTl.out W (HT3.out W (hM ▸ h)))
          have Hn : Hid (∀ A4 c4, Rd w3 (.slice A4 (rest.length - 64) c4) (bytesU (rest.drop 64)) → rest.length - 64 ≤ c4 → c4 ≤ 9223372036854775807 → Rd w3 (.slice A4 (rest.drop 64).length c4) (bytesU (rest.drop 64))) := Lib.hid (fun A4 c4 h _ _ => by rw [List.length_drop]; exact h)
          have harr := fun W : World => run_arrayAt (P := Tryd.prog) (w := W) 82 5 64 (some ⟨b0, o0, none⟩) rest.length c3 Tryd.underlying82 h64le
          clear hxl hxb hinf hrd
          generalize nums (rest.take 64) = x at *
          go_wp2
          refine wp_region_mix (St M (Bk M 79 #[.int .u32 a0, .int .u32 a1, .int .u32 a2, .int .u32 a3, .int .u32 a4, .int .u32 a5, .int .u32 a6, .int .u32 a7] * Emp) wr) [0, 1, 2, 3] [4, 5] mixed (by kernel_rfl) rfl (St.drew Bw ho) ?_
          simp only [List.filterMap_cons, List.filterMap_nil, List.getElem?_toArray, List.getElem?_cons_succ, List.getElem?_cons_zero]
          repeat (first
            | (refine held_val ?_ rfl (fun w1 hS => ?_) ?_
               rotate_left
               · (have c0 := hS.2.1.cell 0; have c1 := hS.2.1.cell 1; have c2 := hS.2.1.cell 2; have c3 := hS.2.1.cell 3; have c4 := hS.2.1.cell 4; have c5 := hS.2.1.cell 5; have c6 := hS.2.1.cell 6; have c7 := hS.2.1.cell 7; have hld := 0
                  go_simp
                  try go_bits
                  rfl)
               simp only [Act.put, List.setIfInBounds_toArray, List.set_cons_zero, List.set_cons_succ])
            | (refine held_off rfl ?_
               simp only [Act.put, List.setIfInBounds_toArray, List.set_cons_zero, List.set_cons_succ]))
          refine held_val (.agg (u8A x)) rfl (fun w1 hS => ?_) ?_
          · have hld := Hld.out w1 (hb.trans hS.2.2)
            exact exec_load rfl rfl hld
          simp only [Act.put, List.setIfInBounds_toArray, List.set_cons_zero, List.set_cons_succ]
          refine held_nil (fun w9 hS => ?_)
          obtain ⟨B9, o9, b9⟩ := hS
          have hb9 := hb.trans b9
          have HB9 := Lib.hid (HBl.out w9 hb9)
          clear HBl Hld harr ho hb b9
          go_wp2_with fail
          refine HB9.out.mono ?_
          rintro e wa ⟨⟨t0, t1, t2, t3, t4, t5, t6, t7, rfl⟩, ba⟩
          have oa := o9.grown B9 ba
          have hba := hb9.trans (ba.mono B9)
          have Ba := Nat.le_trans B9 ba.size
          have c0 := oa.cell 0
          have c1 := oa.cell 1
          have c2 := oa.cell 2
          have c4 := oa.cell 4
          have c5 := oa.cell 5
          have c6 := oa.cell 6
          have c7 := oa.cell 7
          have c3' := oa.cell 3
          have z0 := oa.unfrozen 0
          have z1 := oa.unfrozen 1
          have z2 := oa.unfrozen 2
          have z3 := oa.unfrozen 3
          have z4 := oa.unfrozen 4
          have z5 := oa.unfrozen 5
          have z6 := oa.unfrozen 6
          have z7 := oa.unfrozen 7
          obtain ⟨p, pb⟩ := oa.set8 Ba (.int .u32 t0) (.int .u32 t1) (.int .u32 t2) (.int .u32 t3) (.int .u32 t4) (.int .u32 t5) (.int .u32 t6) (.int .u32 t7)
          have Fin := Lib.hid (And.intro p (hba.trans pb))
          have hdl : (rest.drop 64).length = rest.length - 64 := List.length_drop
          have Hd := Lib.hid (show (rest.drop 64).length % 64 = 0 ∧ (rest.drop 64).length ≤ 1000000200 ∧ (rest.drop 64).length < rest.length by omega)
          have n3 : (rest.length : Int) ≤ (c3 : Int) := by omega
          have Hdl := Lib.hid hdl
          clear oa ba p pb o9 B9 hb9 HB9 hba Ba hdl
          by_cases hc64 : c3 = 64
          · have hr64 : rest.length = 64 := by omega
            have hd0 : rest.drop 64 = [] := List.drop_eq_nil_of_le (by omega)
            have Hd0 := Lib.hid hd0
            have Hrd : Hid (Rd w3 (.slice (some ⟨b0, o0, none⟩) ([] : List UInt8).length 0) (bytesU [])) := Lib.hid ⟨_, _, rfl, fun h => absurd rfl h⟩
            subst hc64
            clear hd0
            go_wp2
            go_roundg 0
            case measure => omega
            case rel => exact ⟨[], _, _, _, _, _, _, _, _, _, _, rfl, rfl, by simp, rfl, by simp, Hrd, Fin.out.1, Fin.out.2⟩
          · have Hrd := Lib.hid (And.intro (rd_drop64 hR.out hc64 h64le) (show (rest.drop 64).length ≤ c3 - 64 ∧ c3 - 64 ≤ 9223372036854775807 by rw [Hdl.out]; omega))
            go_wp2
            go_roundg (rest.drop 64).length
            case measure => exact Hd.out.2.2
            case rel => exact ⟨rest.drop 64, _, _, _, _, _, _, _, _, _, _, rfl, by rw [Hdl.out], Hrd.out.2, Hd.out.1, Hd.out.2.1, Lib.hid Hrd.out.1, Fin.out.1, Fin.out.2⟩
        · have c0 : wr.cell? ⟨M, 0, none⟩ = some (.int .u32 a0) := ho.cell 0
          have c1 : wr.cell? ⟨M, 1, none⟩ = some (.int .u32 a1) := ho.cell 1
          have c2 : wr.cell? ⟨M, 2, none⟩ = some (.int .u32 a2) := ho.cell 2
          have c3' : wr.cell? ⟨M, 3, none⟩ = some (.int .u32 a3) := ho.cell 3
          have c4 : wr.cell? ⟨M, 4, none⟩ = some (.int .u32 a4) := ho.cell 4
          have c5 : wr.cell? ⟨M, 5, none⟩ = some (.int .u32 a5) := ho.cell 5
          have c6 : wr.cell? ⟨M, 6, none⟩ = some (.int .u32 a6) := ho.cell 6
          have c7 : wr.cell? ⟨M, 7, none⟩ = some (.int .u32 a7) := ho.cell 7
          have o10 := ho.new Bw 25 #[.int .u8 0, .int .u8 0, .int .u8 0, .int .u8 0, .int .u8 0, .int .u8 0, .int .u8 0, .int .u8 0, .int .u8 0, .int .u8 0, .int .u8 0, .int .u8 0, .int .u8 0, .int .u8 0, .int .u8 0, .int .u8 0, .int .u8 0, .int .u8 0, .int .u8 0, .int .u8 0, .int .u8 0, .int .u8 0, .int .u8 0, .int .u8 0, .int .u8 0, .int .u8 0, .int .u8 0, .int .u8 0, .int .u8 0, .int .u8 0, .int .u8 0, .int .u8 0]
          have b10 := hb.alloc Bw (.cells #[.int .u8 0, .int .u8 0, .int .u8 0, .int .u8 0, .int .u8 0, .int .u8 0, .int .u8 0, .int .u8 0, .int .u8 0, .int .u8 0, .int .u8 0, .int .u8 0, .int .u8 0, .int .u8 0, .int .u8 0, .int .u8 0, .int .u8 0, .int .u8 0, .int .u8 0, .int .u8 0, .int .u8 0, .int .u8 0, .int .u8 0, .int .u8 0, .int .u8 0, .int .u8 0, .int .u8 0, .int .u8 0, .int .u8 0, .int .u8 0, .int .u8 0, .int .u8 0] 25)
          have d0 : (wr.alloc (.cells #[.int .u8 0, .int .u8 0, .int .u8 0, .int .u8 0, .int .u8 0, .int .u8 0, .int .u8 0, .int .u8 0, .int .u8 0, .int .u8 0, .int .u8 0, .int .u8 0, .int .u8 0, .int .u8 0, .int .u8 0, .int .u8 0, .int .u8 0, .int .u8 0, .int .u8 0, .int .u8 0, .int .u8 0, .int .u8 0, .int .u8 0, .int .u8 0, .int .u8 0, .int .u8 0, .int .u8 0, .int .u8 0, .int .u8 0, .int .u8 0, .int .u8 0, .int .u8 0] 25)).cell? ⟨M, 0, none⟩ = some (.int .u32 a0) := o10.cellOf M 0
          have d1 : (wr.alloc (.cells #[.int .u8 0, .int .u8 0, .int .u8 0, .int .u8 0, .int .u8 0, .int .u8 0, .int .u8 0, .int .u8 0, .int .u8 0, .int .u8 0, .int .u8 0, .int .u8 0, .int .u8 0, .int .u8 0, .int .u8 0, .int .u8 0, .int .u8 0, .int .u8 0, .int .u8 0, .int .u8 0, .int .u8 0, .int .u8 0, .int .u8 0, .int .u8 0, .int .u8 0, .int .u8 0, .int .u8 0, .int .u8 0, .int .u8 0, .int .u8 0, .int .u8 0, .int .u8 0] 25)).cell? ⟨M, 1, none⟩ = some (.int .u32 a1) := o10.cellOf M 1
          have d2 : (wr.alloc (.cells #[.int .u8 0, .int .u8 0, .int .u8 0, .int .u8 0, .int .u8 0, .int .u8 0, .int .u8 0, .int .u8 0, .int .u8 0, .int .u8 0, .int .u8 0, .int .u8 0, .int .u8 0, .int .u8 0, .int .u8 0, .int .u8 0, .int .u8 0, .int .u8 0, .int .u8 0, .int .u8 0, .int .u8 0, .int .u8 0, .int .u8 0, .int .u8 0, .int .u8 0, .int .u8 0, .int .u8 0, .int .u8 0, .int .u8 0, .int .u8 0, .int .u8 0, .int .u8 0] 25)).cell? ⟨M, 2, none⟩ = some (.int .u32 a2) := o10.cellOf M 2
          have d3 : (wr.alloc (.cells #[.int .u8 0, .int .u8 0, .int .u8 0, .int .u8 0, .int .u8 0, .int .u8 0, .int .u8 0, .int .u8 0, .int .u8 0, .int .u8 0, .int .u8 0, .int .u8 0, .int .u8 0, .int .u8 0, .int .u8 0, .int .u8 0, .int .u8 0, .int .u8 0, .int .u8 0, .int .u8 0, .int .u8 0, .int .u8 0, .int .u8 0, .int .u8 0, .int .u8 0, .int .u8 0, .int .u8 0, .int .u8 0, .int .u8 0, .int .u8 0, .int .u8 0, .int .u8 0] 25)).cell? ⟨M, 3, none⟩ = some (.int .u32 a3) := o10.cellOf M 3
          have d4 : (wr.alloc (.cells #[.int .u8 0, .int .u8 0, .int .u8 0, .int .u8 0, .int .u8 0, .int .u8 0, .int .u8 0, .int .u8 0, .int .u8 0, .int .u8 0, .int .u8 0, .int .u8 0, .int .u8 0, .int .u8 0, .int .u8 0, .int .u8 0, .int .u8 0, .int .u8 0, .int .u8 0, .int .u8 0, .int .u8 0, .int .u8 0, .int .u8 0, .int .u8 0, .int .u8 0, .int .u8 0, .int .u8 0, .int .u8 0, .int .u8 0, .int .u8 0, .int .u8 0, .int .u8 0] 25)).cell? ⟨M, 4, none⟩ = some (.int .u32 a4) := o10.cellOf M 4
          have d5 : (wr.alloc (.cells #[.int .u8 0, .int .u8 0, .int .u8 0, .int .u8 0, .int .u8 0, .int .u8 0, .int .u8 0, .int .u8 0, .int .u8 0, .int .u8 0, .int .u8 0, .int .u8 0, .int .u8 0, .int .u8 0, .int .u8 0, .int .u8 0, .int .u8 0, .int .u8 0, .int .u8 0, .int .u8 0, .int .u8 0, .int .u8 0, .int .u8 0, .int .u8 0, .int .u8 0, .int .u8 0, .int .u8 0, .int .u8 0, .int .u8 0, .int .u8 0, .int .u8 0, .int .u8 0] 25)).cell? ⟨M, 5, none⟩ = some (.int .u32 a5) := o10.cellOf M 5
          have d6 : (wr.alloc (.cells #[.int .u8 0, .int .u8 0, .int .u8 0, .int .u8 0, .int .u8 0, .int .u8 0, .int .u8 0, .int .u8 0, .int .u8 0, .int .u8 0, .int .u8 0, .int .u8 0, .int .u8 0, .int .u8 0, .int .u8 0, .int .u8 0, .int .u8 0, .int .u8 0, .int .u8 0, .int .u8 0, .int .u8 0, .int .u8 0, .int .u8 0, .int .u8 0, .int .u8 0, .int .u8 0, .int .u8 0, .int .u8 0, .int .u8 0, .int .u8 0, .int .u8 0, .int .u8 0] 25)).cell? ⟨M, 6, none⟩ = some (.int .u32 a6) := o10.cellOf M 6
          have d7 : (wr.alloc (.cells #[.int .u8 0, .int .u8 0, .int .u8 0, .int .u8 0, .int .u8 0, .int .u8 0, .int .u8 0, .int .u8 0, .int .u8 0, .int .u8 0, .int .u8 0, .int .u8 0, .int .u8 0, .int .u8 0, .int .u8 0, .int .u8 0, .int .u8 0, .int .u8 0, .int .u8 0, .int .u8 0, .int .u8 0, .int .u8 0, .int .u8 0, .int .u8 0, .int .u8 0, .int .u8 0, .int .u8 0, .int .u8 0, .int .u8 0, .int .u8 0, .int .u8 0, .int .u8 0] 25)).cell? ⟨M, 7, none⟩ = some (.int .u32 a7) := o10.cellOf M 7
          clear ho hb hR
          go_wp2
          generalize hX7 : wr.heap.size = X7 at *
          clear c0 c1 c2 c3' c4 c5 c6 c7 d0 d1 d2 d3 d4 d5 d6 d7 Bw hX7
          go_loopg [38] 8 (fun kk v38 wr => ∃ (i : Nat) (l : List Int), kk + i = 8 ∧ v38 = .int .i64 (i : Int) ∧ By32 l ∧ Own M (Bk X7 25 (u8A l) * (Bk M 79 #[.int .u32 a0, .int .u32 a1, .int .u32 a2, .int .u32 a3, .int .u32 a4, .int .u32 a5, .int .u32 a6, .int .u32 a7] * Emp)) wr ∧ Below M w3 wr)
          case atStart => exact ⟨0, List.replicate 32 0, rfl, rfl, By32.zero, o10, b10⟩
          case round =>
            clear o10 b10
            obtain ⟨i, l, hk, rfl, hl, ho, hb⟩ := hrel
            have i0 : (0 : Int) ≤ (i : Int) := by omega
            have Bw : M ≤ wr.heap.size := by rw [← hM]; exact hb.size
            by_cases hi8 : (i : Int) < 8
            · obtain ⟨j, rfl⟩ : ∃ j, gk = j + 1 := ⟨gk - 1, by omega⟩
              have hix := fun W => index8 [a0, a1, a2, a3, a4, a5, a6, a7] rfl i (by omega) W
              rw [show u32A [a0, a1, a2, a3, a4, a5, a6, a7] = #[.int .u32 a0, .int .u32 a1, .int .u32 a2, .int .u32 a3, .int .u32 a4, .int .u32 a5, .int .u32 a6, .int .u32 a7] from rfl] at hix
              generalize List.getD [a0, a1, a2, a3, a4, a5, a6, a7] i 0 = xi at hix
              have Hk := Lib.hid hk
              clear hk
              go_wp2
              go_loopg [42] 4 (fun kk v42 wr => ∃ (k : Nat) (l : List Int), kk + k = 4 ∧ v42 = .int .i64 (k : Int) ∧ By32 l ∧ Own M (Bk X7 25 (u8A l) * (Bk M 79 #[.int .u32 a0, .int .u32 a1, .int .u32 a2, .int .u32 a3, .int .u32 a4, .int .u32 a5, .int .u32 a6, .int .u32 a7] * Emp)) wr ∧ Below M w3 wr)
              case atStart => exact ⟨0, l, rfl, rfl, hl, ho, hb⟩
              case round =>
                clear ho hb hl Bw
                obtain ⟨k, l, hk, rfl, hl, ho, hb⟩ := hrel
                have Bw : M ≤ wr.heap.size := by rw [← hM]; exact hb.size
                by_cases hk4 : (k : Int) < 4
                · obtain ⟨j2, rfl⟩ : ∃ j2, gk = j2 + 1 := ⟨gk - 1, by omega⟩
                  obtain ⟨q, hq⟩ : ∃ q, 4 * i + k = q := ⟨_, rfl⟩
                  have e1 : (4 : Int) * (i : Int) + (k : Int) = (q : Int) := by omega
                  have q32 : q < l.length := by rw [hl.1]; omega
                  have q1 : (q : Int) < 32 := by omega
                  have q0 : (0 : Int) ≤ (q : Int) := by omega
                  have cq := (ho.cell q).trans (u8A_get l q q32)
                  have zq := ho.unfrozen q
                  have Fin := Lib.hid (fun z => (And.intro ((u8A_set l q z) ▸ (ho.set Bw q (.int .u8 z))) (hb.trans (ho.below_set q (.int .u8 z)))))
                  have Hl := Lib.hid (And.intro hk hl)
                  have hk4' : k < 4 := by omega
                  generalize l[q] = lq at cq
                  clear hq q32 ho hb hl hk
                  match k, hk4' with
                  | 0, _ => have e2 : (4 : Int) * (i : Int) = (q : Int) := by omega
                            clear e1
                            go_wp2
                            go_roundg j2
                            case measure => omega
                            case rel => exact ⟨_, l.set q _, by have := Hl.out.1; omega, rfl, Hl.out.2.set _ (by omega), (Fin.out _).1, (Fin.out _).2⟩
                  | 1, _ => have e2 : (4 : Int) * (i : Int) + 1 = (q : Int) := by omega
                            clear e1
                            go_wp2
                            go_roundg j2
                            case measure => omega
                            case rel => exact ⟨_, l.set q _, by have := Hl.out.1; omega, rfl, Hl.out.2.set _ (by omega), (Fin.out _).1, (Fin.out _).2⟩
                  | 2, _ => have e2 : (4 : Int) * (i : Int) + 2 = (q : Int) := by omega
                            clear e1
                            go_wp2
                            go_roundg j2
                            case measure => omega
                            case rel => exact ⟨_, l.set q _, by have := Hl.out.1; omega, rfl, Hl.out.2.set _ (by omega), (Fin.out _).1, (Fin.out _).2⟩
                  | 3, _ => have e2 : (4 : Int) * (i : Int) + 3 = (q : Int) := by omega
                            clear e1
                            go_wp2
                            go_roundg j2
                            case measure => omega
                            case rel => exact ⟨_, l.set q _, by have := Hl.out.1; omega, rfl, Hl.out.2.set _ (by omega), (Fin.out _).1, (Fin.out _).2⟩
                · go_wp2
                  go_roundg j
                  case measure => omega
                  case rel => exact ⟨i + 1, l, by have := Hk.out; omega, rfl, hl, ho, hb⟩
            · have hXM : X0 < M := by
                have := (o3.foc (Bk X0 25 (u8A (List.replicate 32 0)))).bk.2.2
                omega
              have H0 := (hb.block X0 (by omega)).trans (o3.foc (Bk X0 25 (u8A (List.replicate 32 0)))).bk.1
              have H7 := ho.bk.1
              have hls : (u8A l).size = 32 := by simp [u8A, hl.1]
              have hinf : (Tryd.prog.info? 25).map (·.size) = some (u8A l).size := by rw [hls]; kernel_rfl
              have hone : (u8A l).all (·.oneCell') = true := by simp [u8A, Value.oneCell']
              have hold : (u8A (List.replicate 32 0)).size = (u8A l).size := by rw [hls]; simp [u8A]
              have hbw : Below X0 w wr := hb3.trans (hb.mono (by rw [← hX0, ← hM]; exact hb3.size))
              have hst := setRow_heap wr X0 (u8A (List.replicate 32 0)) (u8A l) 25 (0, 0) H0
              have hbs := below_setRow hbw (Nat.le_refl X0) (u8A l)
              have Hfin := Lib.hid (And.intro hst (And.intro hbs (And.intro hl.bytes hinf)))
              have H0' := Lib.hid H0
              have H7' := Lib.hid H7
              clear hst hbs H0 H7 hbw
              go_wp2_with first
                | (refine wpList_load_row rfl 25 (.tmp 7) rfl X7 rfl 25 (u8A l) (0, 0) _ H7'.out Tryd.underlying25 rfl hinf ?_)
                | (refine wpList_plain rfl fun _ hK => wp_store_row 25 (.tmp 2) (.tmp 58) rfl X0 (u8A l) rfl rfl 25 _ H0'.out hinf hold hone (hK _ _ ?_))
              refine bodyPost_ret (results_cell_row rfl _ _ X0 25 (u8A l) (0, 0) _ rfl Hfin.out.1 Tryd.underlying25 rfl hinf) rfl ?_
              obtain ⟨D, hD, hDe⟩ := Hfin.out.2.2.1
              exact ⟨⟨D, hD, by rw [hDe]⟩, Hfin.out.2.1⟩
end Go.Proofs.YtmppagiaonbggaaDoor

/- What a call leaves that returns bytes and an error. -/
namespace Go.Proofs.YtmppagiaonbggaaDoor
set_option linter.unusedVariables false
set_option linter.unusedSimpArgs false
set_option maxRecDepth 100000
open Go.RowKit

def RetBE (w : World) (r : List UInt8 × Int) (e : Ending) (w' : World) : Prop :=
  ∃ A c, e = .returned (.tuple #[.slice A r.1.length c, .int .i64 r.2]) ∧ Rd w' (.slice A r.1.length c) (bytesU r.1) ∧ (r.1.length ≤ c ∧ c ≤ 9223372036854775807) ∧ Below w.heap.size w w'
theorem RetBE.err {w w' : World} {z : Int} {e : Ending} (he : e = .returned (.tuple #[.slice none 0 0, .int .i64 z])) (hb : Below w.heap.size w w') : RetBE w ([], z) e w' :=
  ⟨none, 0, he, Rd.nil _, by simp, hb⟩
end Go.Proofs.YtmppagiaonbggaaDoor

/- Numbers and bytes in a row: plain laws of what is written, and of what is read. -/
namespace Go.Proofs.YtmppagiaonbggaaDoor
set_option linter.unusedVariables false
set_option linter.unusedSimpArgs false
set_option maxRecDepth 100000

/-- A number's bytes. -/
def onum (n : Nat) : List UInt8 := if n < 128 then [UInt8.ofNat n] else UInt8.ofNat (n % 128 + 128) :: onum (n / 128)
termination_by n
decreasing_by omega
theorem onum_small {n : Nat} (h : n < 128) : onum n = [UInt8.ofNat n] := by rw [onum, if_pos h]
theorem onum_big {n : Nat} (h : ¬ n < 128) : onum n = UInt8.ofNat (n % 128 + 128) :: onum (n / 128) := by rw [onum, if_neg h]
def onumI (n : Int) : List UInt8 := onum (if n < 0 ∨ 1099511627775 < n then 0 else n.toNat)
theorem onum_pos (n : Nat) : 1 ≤ (onum n).length := by rw [onum]; split <;> simp
theorem onum_len : ∀ (k n : Nat), n < 128 ^ (k + 1) → (onum n).length ≤ k + 1
  | 0, n, h => by rw [onum_small (by simpa using h)]; simp
  | k + 1, n, h => by
    by_cases hn : n < 128
    · rw [onum_small hn]; simp
    · rw [onum_big hn, List.length_cons]
      have := onum_len k (n / 128) (by rw [Nat.div_lt_iff_lt_mul (by omega)]; rw [Nat.pow_succ] at h; exact h)
      omega
theorem onum_len6 {n : Nat} (h : n ≤ 1099511627775) : (onum n).length ≤ 6 := onum_len 5 n (Nat.lt_of_le_of_lt h (by decide))
theorem onumI_len (n : Int) : (onumI n).length ≤ 6 := by
  unfold onumI
  split
  · rw [onum_small (by omega)]; simp
  · exact onum_len6 (by omega)

/-- What bytes stand for, the lowest first. -/
def lebV : List UInt8 → Nat
  | [] => 0
  | c :: l => c.toNat % 128 + 128 * lebV l
theorem lebV_lt : ∀ l : List UInt8, lebV l < 128 ^ l.length
  | [] => by simp [lebV]
  | c :: l => by
    have h := lebV_lt l
    rw [lebV, List.length_cons, Nat.pow_succ]
    omega
theorem u8_toNat (n : Nat) (h : n < 256) : (UInt8.ofNat n).toNat = n := by simp; omega
theorem lebV_onum : ∀ (k n : Nat), n < 128 ^ (k + 1) → lebV (onum n) = n
  | 0, n, h => by rw [onum_small (by simpa using h), lebV, lebV, u8_toNat _ (by omega)]; simp at h; omega
  | k + 1, n, h => by
    by_cases hn : n < 128
    · rw [onum_small hn, lebV, lebV, u8_toNat _ (by omega)]; omega
    · rw [onum_big hn, lebV, lebV_onum k _ (by rw [Nat.div_lt_iff_lt_mul (by omega)]; rw [Nat.pow_succ] at h; exact h), u8_toNat _ (by omega)]
      omega

/-- The end of the first number: the place of the first byte below 128. -/
def endN : List UInt8 → Option Nat
  | [] => none
  | c :: l => if c.toNat < 128 then some 0 else (endN l).map (· + 1)
theorem endN_lt : ∀ {l : List UInt8} {k : Nat}, endN l = some k → k < l.length
  | [], k, h => by simp [endN] at h
  | c :: l, k, h => by
    unfold endN at h
    split at h
    · injection h with h; subst h; simp
    · obtain ⟨j, hj, rfl⟩ := Option.map_eq_some_iff.1 h
      have := endN_lt hj
      simp; omega
theorem endN_onum (r : List UInt8) : ∀ (n : Nat), endN (onum n ++ r) = some ((onum n).length - 1) := by
  intro n
  induction n using Nat.strongRecOn with
  | _ n ih =>
    by_cases hn : n < 128
    · rw [onum_small hn]; simp [endN]; omega
    · rw [onum_big hn, List.cons_append, endN, if_neg (by rw [u8_toNat _ (by omega)]; omega), ih (n / 128) (by omega)]
      have := onum_pos (n / 128)
      simp; omega

/-- A reader: what is left, and its error. -/
structure OS where
  rest : List UInt8
  err : Int

def readNum (s : OS) (most : Int) : Int × OS :=
  if s.err ≠ 0 then (0, s) else
  match endN s.rest with
  | none => if 6 ≤ s.rest.length then (0, ⟨s.rest, 4⟩) else (0, ⟨s.rest, 2⟩)
  | some k =>
    if 6 ≤ k then (0, ⟨s.rest, 4⟩) else
    if 0 < k ∧ s.rest[k]? = some 0 then (0, ⟨s.rest.drop (k + 1), 4⟩) else
    if most < lebV (s.rest.take (k + 1)) ∨ 1099511627775 < lebV (s.rest.take (k + 1)) then (0, ⟨s.rest.drop (k + 1), 3⟩) else
    (lebV (s.rest.take (k + 1)), ⟨s.rest.drop (k + 1), 0⟩)
def otake (s : OS) (n : Nat) : List UInt8 × OS :=
  if s.err ≠ 0 then ([], s) else
  if s.rest.length < n then ([], ⟨s.rest, 2⟩) else (s.rest.take n, ⟨s.rest.drop n, 0⟩)
def readBytes (s : OS) (most : Int) : List UInt8 × OS := otake (readNum s most).2 (readNum s most).1.toNat
def oleft (s : OS) : Nat := if s.err ≠ 0 then 0 else s.rest.length
def oend (s : OS) : Int := if 0 < oleft s then 5 else s.err

theorem readNum_err {s : OS} (h : s.err ≠ 0) (most : Int) : readNum s most = (0, s) := by unfold readNum; rw [if_pos h]
theorem otake_err {s : OS} (h : s.err ≠ 0) (n : Nat) : otake s n = ([], s) := by unfold otake; rw [if_pos h]
theorem readNum_range (s : OS) (most : Int) (hm : 0 ≤ most) : 0 ≤ (readNum s most).1 ∧ (readNum s most).1 ≤ most ∧ (readNum s most).1 ≤ 1099511627775 := by
  unfold readNum
  split
  · exact ⟨Int.le_refl _, hm, by omega⟩
  split
  · split <;> exact ⟨Int.le_refl _, hm, by show (0 : Int) ≤ _; omega⟩
  · split
    · exact ⟨Int.le_refl _, hm, by show (0 : Int) ≤ _; omega⟩
    split
    · exact ⟨Int.le_refl _, hm, by show (0 : Int) ≤ _; omega⟩
    split
    · exact ⟨Int.le_refl _, hm, by show (0 : Int) ≤ _; omega⟩
    · rename_i h
      rw [not_or] at h
      exact ⟨Int.natCast_nonneg _, by simp only; omega, by simp only; omega⟩
theorem readNum_rest (s : OS) (most : Int) : (readNum s most).2.rest.length ≤ s.rest.length := by
  unfold readNum
  split
  · exact Nat.le_refl _
  split
  · split <;> exact Nat.le_refl _
  · split
    · exact Nat.le_refl _
    split
    · simp
    split <;> simp

/-- WHAT WAS WRITTEN IS READ. -/
theorem readNum_onum {n : Nat} (h : n ≤ 1099511627775) (most : Int) (hm : (n : Int) ≤ most) (r : List UInt8) : readNum ⟨onum n ++ r, 0⟩ most = ((n : Int), ⟨r, 0⟩) := by
  have h1 := onum_pos n
  have h6 := onum_len6 h
  have e : (onum n).length - 1 + 1 = (onum n).length := by omega
  have hv : lebV (onum n) = n := lebV_onum 5 n (Nat.lt_of_le_of_lt h (by decide))
  unfold readNum
  rw [if_neg (by simp)]
  simp only [endN_onum]
  rw [if_neg (by omega), e, List.take_left, List.drop_left, hv]
  have hz : ∀ m : Nat, 128 ≤ m → ¬ (onum m)[(onum m).length - 1]? = some 0 := by
    intro m
    induction m using Nat.strongRecOn with
    | _ m ih =>
      intro hm
      rw [onum_big (by omega), List.length_cons]
      have hp := onum_pos (m / 128)
      rw [show (onum (m / 128)).length + 1 - 1 = ((onum (m / 128)).length - 1) + 1 by omega, List.getElem?_cons_succ]
      by_cases hs : 128 ≤ m / 128
      · exact ih _ (by omega) hs
      · rw [onum_small (by omega)]
        simp
        intro e
        have := congrArg UInt8.toNat e
        rw [u8_toNat _ (by omega)] at this
        simp at this
        omega
  rw [if_neg, if_neg (by omega)]
  rintro ⟨hk, h0⟩
  rw [List.getElem?_append_left (by omega)] at h0
  by_cases hs : 128 ≤ n
  · exact hz n hs h0
  · rw [onum_small (by omega)] at hk; simp at hk

theorem onum_lebV : ∀ (l r : List UInt8) (k : Nat), endN l = some k → ¬ (0 < k ∧ l[k]? = some 0) → l = onum (lebV (l.take (k + 1))) ++ l.drop (k + 1)
  | [], _, k, h, _ => by simp [endN] at h
  | c :: l, r, k, h, h0 => by
    unfold endN at h
    split at h
    · injection h with h; subst h
      rename_i hc
      rw [List.take_succ_cons, List.take_zero, lebV, lebV, onum_small (by omega)]
      simp only [List.drop_succ_cons, List.drop_zero, List.singleton_append, Nat.mul_zero, Nat.add_zero, List.cons.injEq, and_true]
      apply UInt8.toNat.inj
      rw [u8_toNat _ (by omega)]; omega
    · rename_i hc
      obtain ⟨j, hj, rfl⟩ := Option.map_eq_some_iff.1 h
      have hjl := endN_lt hj
      rw [List.getElem?_cons_succ] at h0
      have h0' : ¬ l[j]? = some 0 := fun e => h0 ⟨by omega, e⟩
      have ih := onum_lebV l r j hj (fun e => h0' e.2)
      have hc8 : c.toNat < 256 := c.toNat_lt
      have hpos : 1 ≤ lebV (l.take (j + 1)) := by
        have hg : ∀ (m : List UInt8) (j : Nat), endN m = some j → ¬ m[j]? = some 0 → 1 ≤ lebV (m.take (j + 1)) := by
          intro m
          induction m with
          | nil => intro j hj; simp [endN] at hj
          | cons d m ihm =>
            intro j hj h0
            unfold endN at hj
            split at hj
            · injection hj with hj; subst hj
              rename_i hd
              rw [List.take_succ_cons, List.take_zero, lebV, lebV]
              rw [List.getElem?_cons_zero] at h0
              have : d.toNat ≠ 0 := fun e => h0 (by congr 1; apply UInt8.toNat.inj; rw [e]; rfl)
              omega
            · obtain ⟨i, hi, rfl⟩ := Option.map_eq_some_iff.1 hj
              rw [List.getElem?_cons_succ] at h0
              have := ihm i hi h0
              rw [List.take_succ_cons, lebV]; omega
        exact hg l j hj h0'
      rw [List.take_succ_cons, lebV, onum_big (by omega)]
      have e1 : (c.toNat % 128 + 128 * lebV (l.take (j + 1))) % 128 = c.toNat % 128 := by omega
      have e2 : (c.toNat % 128 + 128 * lebV (l.take (j + 1))) / 128 = lebV (l.take (j + 1)) := by omega
      rw [e1, e2, List.cons_append, List.drop_succ_cons, ← ih]
      congr 1
      apply UInt8.toNat.inj
      rw [u8_toNat _ (by omega)]; omega
/-- WHAT IS READ IS WHAT WOULD HAVE BEEN WRITTEN. -/
theorem readNum_ok {s : OS} {most n : Int} {t : OS} (h : readNum s most = (n, t)) (ht : t.err = 0) : s.err = 0 ∧ s.rest = onum n.toNat ++ t.rest ∧ 0 ≤ n ∧ n ≤ most ∧ n ≤ 1099511627775 := by
  unfold readNum at h
  split at h
  · rename_i he
    injection h with h1 h2; subst h2; exact absurd ht he
  rename_i he
  have he : s.err = 0 := by simpa using he
  refine ⟨he, ?_⟩
  split at h
  · split at h <;> (injection h with h1 h2; subst h2; simp at ht)
  · rename_i k hk
    split at h
    · injection h with h1 h2; subst h2; simp at ht
    split at h
    · injection h with h1 h2; subst h2; simp at ht
    split at h
    · injection h with h1 h2; subst h2; simp at ht
    · rename_i h0 hr
      rw [not_or] at hr
      injection h with h1 h2
      subst h1; subst h2
      refine ⟨?_, Int.natCast_nonneg _, by omega, by omega⟩
      rw [Int.toNat_natCast]
      exact onum_lebV s.rest [] k hk h0
theorem otake_ok {s : OS} {n : Nat} {x : List UInt8} {t : OS} (h : otake s n = (x, t)) (ht : t.err = 0) : s.err = 0 ∧ s.rest = x ++ t.rest ∧ x.length = n := by
  unfold otake at h
  split at h
  · rename_i he; injection h with h1 h2; subst h2; exact absurd ht he
  rename_i he
  split at h
  · injection h with h1 h2; subst h2; simp at ht
  · injection h with h1 h2; subst h1; subst h2
    rename_i hl
    exact ⟨by simpa using he, by simp, by rw [List.length_take]; omega⟩
/-- How many bytes, and they. -/
def bytesN (x : List UInt8) : List UInt8 := onum x.length ++ x
theorem readBytes_bytes {x : List UInt8} (most : Int) (hm : (x.length : Int) ≤ most) (h : x.length ≤ 1099511627775) (r : List UInt8) : readBytes ⟨bytesN x ++ r, 0⟩ most = (x, ⟨r, 0⟩) := by
  unfold readBytes bytesN
  rw [List.append_assoc, readNum_onum h most hm]
  simp only [Int.toNat_natCast]
  unfold otake
  rw [if_neg (by simp), if_neg (by simp), List.take_left, List.drop_left]
theorem readBytes_ok {s : OS} {most : Int} {x : List UInt8} {t : OS} (h : readBytes s most = (x, t)) (ht : t.err = 0) : s.err = 0 ∧ s.rest = bytesN x ++ t.rest ∧ (x.length : Int) ≤ most ∧ (x.length : Int) ≤ 1099511627775 := by
  unfold readBytes at h
  obtain ⟨h1, h2, h3⟩ := otake_ok h ht
  generalize hr : readNum s most = q at *
  obtain ⟨n, u⟩ := q
  obtain ⟨h4, h5, h6, h7, h8⟩ := readNum_ok hr h1
  simp only at h2 h3
  refine ⟨h4, ?_, by omega, by omega⟩
  unfold bytesN
  rw [h5, h2, h3, List.append_assoc]
theorem readBytes_err {s : OS} (h : s.err ≠ 0) (most : Int) : readBytes s most = ([], s) := by
  unfold readBytes
  rw [readNum_err h]
  exact otake_err h _
theorem otake_len (s : OS) (n : Nat) : (otake s n).1.length ≤ n ∧ (otake s n).2.rest.length ≤ s.rest.length := by
  unfold otake
  split
  · simp
  split
  · simp
  · simp [List.length_take]; omega
theorem readBytes_len (s : OS) (most : Int) (hm : 0 ≤ most) : ((readBytes s most).1.length : Int) ≤ most ∧ (readBytes s most).2.rest.length ≤ s.rest.length := by
  unfold readBytes
  have h1 := otake_len (readNum s most).2 (readNum s most).1.toNat
  have h2 := readNum_range s most hm
  have h3 := readNum_rest s most
  exact ⟨by omega, by omega⟩
end Go.Proofs.YtmppagiaonbggaaDoor

/- Bits of whole numbers: and, or, of signed words. -/
namespace Go.Proofs.YtmppagiaonbggaaDoor
set_option linter.unusedVariables false
set_option linter.unusedSimpArgs false
set_option maxRecDepth 100000
open Go

theorem i64_or_nat (a b : Nat) (ha : a < 9223372036854775808) (hb : b < 9223372036854775808) : bits .or .i64 (a : Int) (b : Int) = ((a ||| b : Nat) : Int) := by
  have hx : a ||| b < 2 ^ 63 := Nat.or_lt_two_pow (by omega) (by omega)
  show IntKind.i64.wrap ((BitVec.ofInt 64 (a : Int) ||| BitVec.ofInt 64 (b : Int)).toNat : Int) = _
  rw [BitVec.toNat_or, BitVec.toNat_ofInt, BitVec.toNat_ofInt, IntKind.wrap_i64, show ((((a : Nat) : Int) % ((2 ^ 64 : Nat) : Int)).toNat) = a by omega, show (((b : Int) % ((2 ^ 64 : Nat) : Int)).toNat) = b by omega]
  omega
theorem i64_and_nat (a b : Nat) (ha : a < 9223372036854775808) (hb : b < 9223372036854775808) : bits .and .i64 (a : Int) (b : Int) = ((a &&& b : Nat) : Int) := by
  have hx : a &&& b < 2 ^ 63 := Nat.and_lt_two_pow _ (by omega)
  show IntKind.i64.wrap ((BitVec.ofInt 64 (a : Int) &&& BitVec.ofInt 64 (b : Int)).toNat : Int) = _
  rw [BitVec.toNat_and, BitVec.toNat_ofInt, BitVec.toNat_ofInt, IntKind.wrap_i64, show ((((a : Nat) : Int) % ((2 ^ 64 : Nat) : Int)).toNat) = a by omega, show (((b : Int) % ((2 ^ 64 : Nat) : Int)).toNat) = b by omega]
  omega
theorem or_low (a b k : Nat) (hb : b < 2 ^ k) : (2 ^ k * a) ||| b = 2 ^ k * a + b := (Nat.two_pow_add_eq_or_of_lt hb a).symm
theorem i64_and127 (a : Nat) (ha : a < 9223372036854775808) : bits .and .i64 (a : Int) 127 = ((a % 128 : Nat) : Int) := by
  have := i64_and_nat a 127 ha (by omega)
  rw [show ((127 : Nat) : Int) = 127 from rfl] at this
  rw [this, show (127 : Nat) = 2 ^ 7 - 1 from rfl, Nat.and_two_pow_sub_one_eq_mod]
theorem i64_or128 (a : Nat) (ha : a < 128) : bits .or .i64 (a : Int) 128 = ((a + 128 : Nat) : Int) := by
  have := i64_or_nat a 128 (by omega) (by omega)
  rw [show ((128 : Nat) : Int) = 128 from rfl] at this
  rw [this, Nat.or_comm, show (128 : Nat) = 2 ^ 7 * 1 from rfl, or_low 1 a 7 (by omega), Nat.add_comm]
theorem i64_or_shl7 (a b : Nat) (ha : a < 36028797018963968) (hb : b < 128) : bits .or .i64 ((a : Int) * 128) (b : Int) = ((128 * a + b : Nat) : Int) := by
  have := i64_or_nat (2 ^ 7 * a) b (by omega) (by omega)
  rw [or_low a b 7 (by omega)] at this
  rw [show ((a : Int) * 128) = ((2 ^ 7 * a : Nat) : Int) by omega, this]
theorem i64_or_shl8 (a b : Nat) (ha : a < 36028797018963968) (hb : b < 256) : bits .or .i64 ((a : Int) * 256) (b : Int) = ((256 * a + b : Nat) : Int) := by
  have := i64_or_nat (2 ^ 8 * a) b (by omega) (by omega)
  rw [or_low a b 8 (by omega)] at this
  rw [show ((a : Int) * 256) = ((2 ^ 8 * a : Nat) : Int) by omega, this]
theorem u8_and127 (c : UInt8) : bits .and .u8 (c.toNat : Int) 127 = ((c.toNat % 128 : Nat) : Int) := by
  have hc := c.toNat_lt
  show IntKind.u8.wrap ((BitVec.ofInt 8 (c.toNat : Int) &&& BitVec.ofInt 8 127).toNat : Int) = _
  rw [BitVec.toNat_and, BitVec.toNat_ofInt, show (BitVec.ofInt 8 127).toNat = 2 ^ 7 - 1 from rfl, Nat.and_two_pow_sub_one_eq_mod, show (((c.toNat : Int) % ((2 ^ 8 : Nat) : Int)).toNat) = c.toNat by omega]
  have : c.toNat % 2 ^ 7 < 256 := by omega
  simp [IntKind.wrap, IntKind.bits, IntKind.signed]
  omega
end Go.Proofs.YtmppagiaonbggaaDoor

/- The walks over what package octet writes: Number, Bytes. -/
namespace Go.Proofs.YtmppagiaonbggaaDoor
set_option linter.unusedVariables false
set_option linter.unusedSimpArgs false
set_option maxRecDepth 100000
open Go.RowKit


set_option maxRecDepth 100000 in
set_option maxHeartbeats 1600000 in
theorem number_any (v : Value) (l : List UInt8) (hl : l.length ≤ 140737488300000) (n : Int) (w : World) (hr : Rd w v (bytesU l)) :
    Calls Tryd.prog 35 #[v, .int .i64 n] w (RetB w (l ++ onumI n)) := by
  obtain ⟨A0, c0, rfl, _⟩ := id hr
  have Hc := Lib.hid (fun w1 (b : Below w.heap.size w w1) => clone_any (.slice A0 (bytesU l).length c0) l w1 (hr.below b) (by omega))
  rw [bytesU_length] at Hc ⊢
  clear hr
  by_cases h1 : n < 0
  · have hn : onumI n = onum 0 := by unfold onumI; rw [if_pos (.inl h1)]
    rw [hn]
    clear hn
    go_enter Tryd.func35, Tryd.ntmps35
    go_wp2_with fail
    refine (Hc.out _ (Below.refl _ _)).mono ?_
    rintro e w1 ⟨v1, rfl, ho1, b1⟩
    have o1 : Own w.heap.size (Rw 5 1 v1 l.length (bytesU l) * Emp) w1 := Own.fresh (Nat.le_refl _) (Own.start _ _) ho1 b1
    obtain ⟨A1, c1, rfl⟩ := o1.row_n
    clear ho1
    go_wp2
    go_loopg [1, 5] (onum 0).length (fun k x v wr => ∃ (j : Nat) (out : List UInt8) (A : Option Addr) (c : Nat), k = (onum j).length ∧ x = .int .i64 (j : Int) ∧ v = .slice A out.length c ∧ j ≤ 1099511627775 ∧ Own w.heap.size (Rw 5 1 (.slice A out.length c) out.length (bytesU out) * Emp) wr ∧ Below w.heap.size w wr ∧ Hid (out ++ onum j = l ++ onum 0))
    case atStart => exact ⟨0, l, A1, c1, rfl, rfl, rfl, (by omega), o1, b1, Lib.hid rfl⟩
    case round =>
      clear b1 o1
      obtain ⟨j, out, A, c, rfl, rfl, rfl, hj, ho, hb, he⟩ := hrel
      have hol : out.length ≤ 140737488355327 := by
        have h2 := congrArg List.length he.out
        rw [List.length_append, List.length_append] at h2
        have h3 := onum_len6 (n := 0) (by omega)
        omega
      by_cases h127 : (127 : Int) < (j : Int)
      · have hjn : ¬ j < 128 := by omega
        have e1 := i64_and127 j (by omega)
        have e2 := i64_or128 (j % 128) (by omega)
        have hc8 : (UInt8.ofNat (j % 128 + 128)).toNat = j % 128 + 128 := u8_toNat _ (by omega)
        have h2 := onum_big hjn
        obtain ⟨g, cap, w2, hrun, o2, b2⟩ := byte_snoc hb.size ho (UInt8.ofNat (j % 128 + 128)) ((j % 128 + 128 : Nat) : Int) (by rw [hc8]) hol
        obtain ⟨r, hr⟩ : ∃ r : Nat, r = j % 128 := ⟨_, rfl⟩
        obtain ⟨q, hq⟩ : ∃ q : Nat, q = r + 128 := ⟨_, rfl⟩
        obtain ⟨s, hs⟩ : ∃ s : Nat, s = j / 128 := ⟨_, rfl⟩
        rw [← hr] at e1 e2 hrun
        rw [← hq] at e2 hrun
        have hs2 : (j : Int) / 128 = (s : Int) := by omega
        have q1 : (q : Int) < 256 := by omega
        have q0 : (0 : Int) ≤ (q : Int) := by omega
        have Hq := Lib.hid (And.intro hs h2)
        have Hrun := Lib.hid hrun
        clear hr hq hs h2 hc8 hrun hjn
        go_wp2_with (at_builtin; refine wpList_append_run rfl (.tmp 18) (.tmp 23) 32 rfl rfl rfl Hrun.out ?_)
        go_roundg (onum s).length
        case measure => have := Hq.out; rw [this.2, List.length_cons, ← this.1]; omega
        case rel =>
          obtain ⟨q1, q2⟩ := Hq.out
          exact ⟨s, _, _, _, rfl, rfl, by simp, by omega, o2, hb.trans b2, Lib.hid (by rw [← he.out, q2, q1]; simp)⟩
      · have hjn : j < 128 := by omega
        have hc8 : (UInt8.ofNat j).toNat = j := u8_toNat _ (by omega)
        have h2 := onum_small hjn
        obtain ⟨g, cap, w2, hrun, o2, b2⟩ := byte_snoc hb.size ho (UInt8.ofNat j) (j : Int) (by rw [hc8]) hol
        have j1 : (j : Int) < 128 := by omega
        have Hrun := Lib.hid hrun
        have H2 := Lib.hid h2
        have hb2 := hb.trans b2
        clear h2 hrun hc8
        go_wp2_with (at_builtin; refine wpList_append_run rfl (.tmp 25) (.tmp 28) 32 rfl rfl rfl Hrun.out ?_)
        go_ret
        have he2 : out ++ [UInt8.ofNat j] = l ++ onum 0 := by rw [← he.out, H2.out]
        exact RetB.mk rfl (by simp) he2 rfl o2 hb2
  · by_cases h2 : 1099511627775 < n
    · have hn : onumI n = onum 0 := by unfold onumI; rw [if_pos (.inr h2)]
      rw [hn]
      clear hn
      go_enter Tryd.func35, Tryd.ntmps35
      go_wp2_with fail
      refine (Hc.out _ (Below.refl _ _)).mono ?_
      rintro e w1 ⟨v1, rfl, ho1, b1⟩
      have o1 : Own w.heap.size (Rw 5 1 v1 l.length (bytesU l) * Emp) w1 := Own.fresh (Nat.le_refl _) (Own.start _ _) ho1 b1
      obtain ⟨A1, c1, rfl⟩ := o1.row_n
      clear ho1
      go_wp2
      go_loopg [1, 5] (onum 0).length (fun k x v wr => ∃ (j : Nat) (out : List UInt8) (A : Option Addr) (c : Nat), k = (onum j).length ∧ x = .int .i64 (j : Int) ∧ v = .slice A out.length c ∧ j ≤ 1099511627775 ∧ Own w.heap.size (Rw 5 1 (.slice A out.length c) out.length (bytesU out) * Emp) wr ∧ Below w.heap.size w wr ∧ Hid (out ++ onum j = l ++ onum 0))
      case atStart => exact ⟨0, l, A1, c1, rfl, rfl, rfl, (by omega), o1, b1, Lib.hid rfl⟩
      case round =>
        clear b1 o1
        obtain ⟨j, out, A, c, rfl, rfl, rfl, hj, ho, hb, he⟩ := hrel
        have hol : out.length ≤ 140737488355327 := by
          have h2 := congrArg List.length he.out
          rw [List.length_append, List.length_append] at h2
          have h3 := onum_len6 (n := 0) (by omega)
          omega
        by_cases h127 : (127 : Int) < (j : Int)
        · have hjn : ¬ j < 128 := by omega
          have e1 := i64_and127 j (by omega)
          have e2 := i64_or128 (j % 128) (by omega)
          have hc8 : (UInt8.ofNat (j % 128 + 128)).toNat = j % 128 + 128 := u8_toNat _ (by omega)
          have h2 := onum_big hjn
          obtain ⟨g, cap, w2, hrun, o2, b2⟩ := byte_snoc hb.size ho (UInt8.ofNat (j % 128 + 128)) ((j % 128 + 128 : Nat) : Int) (by rw [hc8]) hol
          obtain ⟨r, hr⟩ : ∃ r : Nat, r = j % 128 := ⟨_, rfl⟩
          obtain ⟨q, hq⟩ : ∃ q : Nat, q = r + 128 := ⟨_, rfl⟩
          obtain ⟨s, hs⟩ : ∃ s : Nat, s = j / 128 := ⟨_, rfl⟩
          rw [← hr] at e1 e2 hrun
          rw [← hq] at e2 hrun
          have hs2 : (j : Int) / 128 = (s : Int) := by omega
          have q1 : (q : Int) < 256 := by omega
          have q0 : (0 : Int) ≤ (q : Int) := by omega
          have Hq := Lib.hid (And.intro hs h2)
          have Hrun := Lib.hid hrun
          clear hr hq hs h2 hc8 hrun hjn
          go_wp2_with (at_builtin; refine wpList_append_run rfl (.tmp 18) (.tmp 23) 32 rfl rfl rfl Hrun.out ?_)
          go_roundg (onum s).length
          case measure => have := Hq.out; rw [this.2, List.length_cons, ← this.1]; omega
          case rel =>
            obtain ⟨q1, q2⟩ := Hq.out
            exact ⟨s, _, _, _, rfl, rfl, by simp, by omega, o2, hb.trans b2, Lib.hid (by rw [← he.out, q2, q1]; simp)⟩
        · have hjn : j < 128 := by omega
          have hc8 : (UInt8.ofNat j).toNat = j := u8_toNat _ (by omega)
          have h2 := onum_small hjn
          obtain ⟨g, cap, w2, hrun, o2, b2⟩ := byte_snoc hb.size ho (UInt8.ofNat j) (j : Int) (by rw [hc8]) hol
          have j1 : (j : Int) < 128 := by omega
          have Hrun := Lib.hid hrun
          have H2 := Lib.hid h2
          have hb2 := hb.trans b2
          clear h2 hrun hc8
          go_wp2_with (at_builtin; refine wpList_append_run rfl (.tmp 25) (.tmp 28) 32 rfl rfl rfl Hrun.out ?_)
          go_ret
          have he2 : out ++ [UInt8.ofNat j] = l ++ onum 0 := by rw [← he.out, H2.out]
          exact RetB.mk rfl (by simp) he2 rfl o2 hb2
    · have hn : onumI n = onum n.toNat := by unfold onumI; rw [if_neg (by omega)]
      obtain ⟨m, rfl⟩ : ∃ m : Nat, n = (m : Int) := ⟨n.toNat, by omega⟩
      rw [hn, Int.toNat_natCast]
      clear hn
      go_enter Tryd.func35, Tryd.ntmps35
      go_wp2_with fail
      refine (Hc.out _ (Below.refl _ _)).mono ?_
      rintro e w1 ⟨v1, rfl, ho1, b1⟩
      have o1 : Own w.heap.size (Rw 5 1 v1 l.length (bytesU l) * Emp) w1 := Own.fresh (Nat.le_refl _) (Own.start _ _) ho1 b1
      obtain ⟨A1, c1, rfl⟩ := o1.row_n
      clear ho1
      go_wp2
      go_loopg [1, 5] (onum m).length (fun k x v wr => ∃ (j : Nat) (out : List UInt8) (A : Option Addr) (c : Nat), k = (onum j).length ∧ x = .int .i64 (j : Int) ∧ v = .slice A out.length c ∧ j ≤ 1099511627775 ∧ Own w.heap.size (Rw 5 1 (.slice A out.length c) out.length (bytesU out) * Emp) wr ∧ Below w.heap.size w wr ∧ Hid (out ++ onum j = l ++ onum m))
      case atStart => exact ⟨m, l, A1, c1, rfl, rfl, rfl, (by omega), o1, b1, Lib.hid rfl⟩
      case round =>
        clear b1 o1
        obtain ⟨j, out, A, c, rfl, rfl, rfl, hj, ho, hb, he⟩ := hrel
        have hol : out.length ≤ 140737488355327 := by
          have h2 := congrArg List.length he.out
          rw [List.length_append, List.length_append] at h2
          have h3 := onum_len6 (n := m) (by omega)
          omega
        by_cases h127 : (127 : Int) < (j : Int)
        · have hjn : ¬ j < 128 := by omega
          have e1 := i64_and127 j (by omega)
          have e2 := i64_or128 (j % 128) (by omega)
          have hc8 : (UInt8.ofNat (j % 128 + 128)).toNat = j % 128 + 128 := u8_toNat _ (by omega)
          have h2 := onum_big hjn
          obtain ⟨g, cap, w2, hrun, o2, b2⟩ := byte_snoc hb.size ho (UInt8.ofNat (j % 128 + 128)) ((j % 128 + 128 : Nat) : Int) (by rw [hc8]) hol
          obtain ⟨r, hr⟩ : ∃ r : Nat, r = j % 128 := ⟨_, rfl⟩
          obtain ⟨q, hq⟩ : ∃ q : Nat, q = r + 128 := ⟨_, rfl⟩
          obtain ⟨s, hs⟩ : ∃ s : Nat, s = j / 128 := ⟨_, rfl⟩
          rw [← hr] at e1 e2 hrun
          rw [← hq] at e2 hrun
          have hs2 : (j : Int) / 128 = (s : Int) := by omega
          have q1 : (q : Int) < 256 := by omega
          have q0 : (0 : Int) ≤ (q : Int) := by omega
          have Hq := Lib.hid (And.intro hs h2)
          have Hrun := Lib.hid hrun
          clear hr hq hs h2 hc8 hrun hjn
          go_wp2_with (at_builtin; refine wpList_append_run rfl (.tmp 18) (.tmp 23) 32 rfl rfl rfl Hrun.out ?_)
          go_roundg (onum s).length
          case measure => have := Hq.out; rw [this.2, List.length_cons, ← this.1]; omega
          case rel =>
            obtain ⟨q1, q2⟩ := Hq.out
            exact ⟨s, _, _, _, rfl, rfl, by simp, by omega, o2, hb.trans b2, Lib.hid (by rw [← he.out, q2, q1]; simp)⟩
        · have hjn : j < 128 := by omega
          have hc8 : (UInt8.ofNat j).toNat = j := u8_toNat _ (by omega)
          have h2 := onum_small hjn
          obtain ⟨g, cap, w2, hrun, o2, b2⟩ := byte_snoc hb.size ho (UInt8.ofNat j) (j : Int) (by rw [hc8]) hol
          have j1 : (j : Int) < 128 := by omega
          have Hrun := Lib.hid hrun
          have H2 := Lib.hid h2
          have hb2 := hb.trans b2
          clear h2 hrun hc8
          go_wp2_with (at_builtin; refine wpList_append_run rfl (.tmp 25) (.tmp 28) 32 rfl rfl rfl Hrun.out ?_)
          go_ret
          have he2 : out ++ [UInt8.ofNat j] = l ++ onum m := by rw [← he.out, H2.out]
          exact RetB.mk rfl (by simp) he2 rfl o2 hb2

set_option maxRecDepth 100000 in
set_option maxHeartbeats 1600000 in
theorem obytes_any (v u : Value) (l x : List UInt8) (hl : l.length ≤ 140737488000000) (hx : x.length ≤ 200000) (w : World) (hr : Rd w v (bytesU l)) (hu : Rd w u (bytesU x)) :
    Calls Tryd.prog 36 #[v, u] w (RetB w (l ++ onumI x.length ++ x)) := by
  have N := number_any v l (by omega) (x.length : Int) w hr
  have Hu := Lib.hid (fun w1 (b : Below w.heap.size w w1) => hu.below b)
  obtain ⟨A0, c0, rfl, _⟩ := id hr
  obtain ⟨A, c, rfl, _⟩ := id hu
  rw [bytesU_length] at N ⊢
  rw [bytesU_length] at Hu ⊢
  have h6 : (l ++ onumI (x.length : Int)).length ≤ 140737488000006 := by have := onumI_len (x.length : Int); rw [List.length_append]; omega
  generalize l ++ onumI (x.length : Int) = L at N h6 ⊢
  clear hr hu
  go_enter Tryd.func36, Tryd.ntmps36
  go_wp2_with fail
  refine N.mono ?_
  rintro e w1 ⟨v1, rfl, ho1, b1⟩
  have o1 : Own w.heap.size (Rw 5 1 v1 L.length (bytesU L) * Emp) w1 := Own.fresh (Nat.le_refl _) (Own.start _ _) ho1 b1
  obtain ⟨v2, w2, hrun, o2, b2⟩ := byte_append b1.size o1 (Hu.out _ b1) (by omega)
  obtain ⟨A1, c1, rfl⟩ := o1.row_n
  have Hrun := Lib.hid hrun
  have hb2 := b1.trans b2
  clear hrun ho1 N
  go_wp2_with (at_builtin; refine wpList_append_run rfl (.tmp 8) (.tmp 9) 32 rfl rfl rfl Hrun.out ?_)
  go_ret
  exact RetB.mk rfl rfl rfl rfl o2 hb2
end Go.Proofs.YtmppagiaonbggaaDoor

/- The walks over Right, Parts, Compare, Parent and Below of package path. -/
namespace Go.Proofs.YtmppagiaonbggaaDoor
set_option linter.unusedVariables false
set_option linter.unusedSimpArgs false
set_option maxRecDepth 100000
open Go.RowKit

/-- May a text be a path? -/
def okPath (s : List UInt8) : Bool := decide (s.length ≤ 256) && (psplit s).all okPart
theorem psplit_len : ∀ s : List UInt8, (psplit s).length ≤ s.length + 1 ∧ ∀ x ∈ psplit s, x.length ≤ s.length
  | [] => by simp [psplit]
  | c :: l => by
    obtain ⟨h1, h2⟩ := psplit_len l
    by_cases hc : c = 47
    · subst hc
      rw [psplit_slash]
      refine ⟨by simp; exact h1, fun x hx => ?_⟩
      rcases List.mem_cons.1 hx with rfl | hx
      · simp
      · have := h2 x hx; simp; omega
    · obtain ⟨p, ps, hl⟩ : ∃ p ps, psplit l = p :: ps := by
        cases h : psplit l with
        | nil => exact absurd h (psplit_ne l)
        | cons p ps => exact ⟨p, ps, rfl⟩
      rw [hl] at h1 h2
      rw [psplit_other hc hl]
      refine ⟨by simp at h1 ⊢; omega, fun x hx => ?_⟩
      rcases List.mem_cons.1 hx with rfl | hx
      · have := h2 p List.mem_cons_self; simp; omega
      · have := h2 x (List.mem_cons_of_mem _ hx); simp; omega

set_option maxHeartbeats 800000 in
theorem right_any (s : ByteArray) (hs : s.size ≤ 9223372036854775807) (w : World) (h : Sh w) : Calls Tryd.prog 55 #[.string s] w fun e w' => e = .returned (.bool (okPath s.data.toList)) ∧ Below w.heap.size w w' := by
  have hsz : s.data.toList.length = s.size := rfl
  obtain ⟨hl1, hl2⟩ := psplit_len s.data.toList
  by_cases hle : s.size ≤ 256
  · have hsp := split_any s (by omega) w h
    have hv : okPath s.data.toList = (psplit s.data.toList).all okPart := by unfold okPath; rw [hsz, decide_eq_true hle]; rfl
    rw [hv]
    have hct := fun (W : World) (hr : RdS W (some ⟨w.heap.size, 0, none⟩) (psplit s.data.toList)) => containsFunc_any (some ⟨w.heap.size, 0, none⟩) (psplit s.data.toList).length (psplit s.data.toList) (by omega) (fun x hx => by have := hl2 x hx; omega) W hr
    have Hsp := Lib.hid hsp
    have Hct := Lib.hid hct
    have hle' : (s.size : Int) ≤ 256 := by omega
    clear hsp hct hv hl2 hl1
    generalize psplit s.data.toList = l at Hsp Hct
    cases hall : l.all okPart with
    | true =>
      have Hct2 := Hct.out
      rw [hall] at Hct2
      have Hct3 := Lib.hid Hct2
      clear Hct2 Hct
      go_enter Tryd.func55, Tryd.ntmps55
      go_wp2_with fail
      refine Hsp.out.mono ?_
      rintro e w1 ⟨rfl, r1, b1⟩
      go_wp2_with fail
      refine (Hct3.out w1 r1).mono ?_
      rintro e w2 ⟨rfl, b2⟩
      go_wp2
      go_ret
      exact ⟨rfl, b1.trans (b2.mono b1.size)⟩
    | false =>
      have Hct2 := Hct.out
      rw [hall] at Hct2
      have Hct3 := Lib.hid Hct2
      clear Hct2 Hct
      go_enter Tryd.func55, Tryd.ntmps55
      go_wp2_with fail
      refine Hsp.out.mono ?_
      rintro e w1 ⟨rfl, r1, b1⟩
      go_wp2_with fail
      refine (Hct3.out w1 r1).mono ?_
      rintro e w2 ⟨rfl, b2⟩
      go_wp2
      go_ret
      exact ⟨rfl, b1.trans (b2.mono b1.size)⟩
  · have hv : okPath s.data.toList = false := by unfold okPath; rw [hsz, decide_eq_false hle]; rfl
    rw [hv]
    have hle' : ¬ (s.size : Int) ≤ 256 := by omega
    clear hv hl1 hl2
    go_enter Tryd.func55, Tryd.ntmps55
    go_wp2
    go_ret
    exact ⟨rfl, Below.refl _ _⟩
end Go.Proofs.YtmppagiaonbggaaDoor
