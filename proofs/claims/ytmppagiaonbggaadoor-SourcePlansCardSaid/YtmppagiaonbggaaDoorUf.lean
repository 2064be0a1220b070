/- Texts of one proof, merged: XH4 XH5 XHa XHb XHc XHd XHe. -/
import Derived.Test.YtmppagiaonbggaaDoorUe
import Derived.Deep.MidRow
import Derived.Laws.CopyOwn
import Derived.Laws.Cover3
/- The walk over Of of package digest: what it gives. -/
namespace Go.Proofs.YtmppagiaonbggaaDoor
set_option linter.unusedVariables false
set_option linter.unusedSimpArgs false
set_option maxRecDepth 100000
open Go.RowKit

/-- Parts of bytes, as they lie. -/
def RdP (w : World) (A : Option Addr) (vs : List (Value × List UInt8)) : Prop := (∀ j (h : j < vs.length), ∃ b off, A = some ⟨b, off, none⟩ ∧ w.cell? ⟨b, off + j, none⟩ = some vs[j].1) ∧ ∀ x ∈ vs, Rd w x.1 (bytesU x.2)
theorem RdP.below {w w' : World} {A : Option Addr} {vs : List (Value × List UInt8)} (h : RdP w A vs) (hb : Below w.heap.size w w') : RdP w' A vs :=
  ⟨fun j hj => let ⟨b, off, ha, hc⟩ := h.1 j hj; ⟨b, off, ha, (World.cell?_of_block (w := w) (w' := w') (a := ⟨b, off + j, none⟩) (hb.block b (World.block_lt_of_cell? w _ hc))).trans hc⟩, fun x hx => (h.2 x hx).below hb⟩
def joinP (vs : List (Value × List UInt8)) : List UInt8 := vs.flatMap (·.2)
theorem joinP_take (vs : List (Value × List UInt8)) (i : Nat) (h : i < vs.length) : joinP (vs.take (i + 1)) = joinP (vs.take i) ++ vs[i].2 := by
  unfold joinP
  rw [List.take_succ_eq_append_getElem h, List.flatMap_append]
  simp
theorem joinP_le (vs : List (Value × List UInt8)) (i : Nat) : (joinP (vs.take i)).length ≤ (joinP vs).length := by
  have : joinP vs = joinP (vs.take i) ++ joinP (vs.drop i) := by unfold joinP; rw [← List.flatMap_append, List.take_append_drop]
  rw [this, List.length_append]
  omega

def nums (l : List UInt8) : List Int := l.map fun c => (c.toNat : Int)
theorem load_chunk (b0 o0 : Nat) (rest : List UInt8) (c3 : Nat) (h64 : 64 ≤ rest.length) (W : World) (hrd : Rd W (.slice (some ⟨b0, o0, none⟩) rest.length c3) (bytesU rest)) :
    (Instr.loadAt 82 (.pointer (some ⟨b0, o0, none⟩))).run Tryd.prog W = .ok (.agg (u8A (nums (rest.take 64)))) W := by
  have hinf : (Tryd.prog.info? 82).map (·.size) = some (bytesU (rest.take 64)).length := by rw [bytesU_length, List.length_take, Nat.min_eq_left h64]; kernel_rfl
  have e : u8A (nums (rest.take 64)) = (bytesU (rest.take 64)).toArray := by unfold u8A nums bytesU; rw [List.map_map]; rfl
  rw [e]
  refine run_loadAt_mid (P := Tryd.prog) W b0 o0 82 (bytesU (rest.take 64)) _ ?_ Tryd.underlying82 rfl hinf
  intro j u hu
  obtain ⟨A', c', hv, hr⟩ := hrd
  injection hv with e1 _ _
  subst e1
  obtain ⟨ad, had, hc⟩ := hr (by intro e; rw [← List.length_eq_zero_iff, bytesU_length] at e; omega)
  cases had
  have := hc j u (by
    unfold bytesU at hu ⊢
    rw [List.map_take, List.getElem?_take] at hu
    split at hu
    · exact hu
    · cases hu)
  rwa [Addr.add_lit] at this
theorem rd_drop64 {w : World} {b0 o0 c3 : Nat} {rest : List UInt8} (h : Rd w (.slice (some ⟨b0, o0, none⟩) rest.length c3) (bytesU rest)) (hc : c3 ≠ 64) (h64 : 64 ≤ rest.length) :
    Rd w (.slice (some ⟨b0, o0 + 64, none⟩) (rest.drop 64).length (c3 - 64)) (bytesU (rest.drop 64)) := by
  obtain ⟨A', c', hv, hr⟩ := h
  injection hv with e1 _ _
  subst e1
  refine ⟨_, c3 - 64, by rw [bytesU_length], fun _ => ⟨_, rfl, fun j u hu => ?_⟩⟩
  obtain ⟨ad, had, hc⟩ := hr (by intro e; rw [← List.length_eq_zero_iff, bytesU_length] at e; omega)
  cases had
  have := hc (64 + j) u (by
    unfold bytesU at hu ⊢
    rw [List.map_drop, List.getElem?_drop] at hu
    exact hu)
  rw [Addr.add_lit] at this ⊢
  rw [Nat.add_assoc]
  exact this
theorem exec_load {P : Program} {a : Act} {o : Oper} {w : World} {ty : TypeId} {x : Operand} {pv v : Value} (ho : o.op = .load ty x) (hx : a.eval x = pv) (h : (Instr.loadAt ty pv).run P w = .ok v w) : (execOp a.eval o).run P w = .ok (.value v) w := by
  unfold execOp
  simp only [ho, hx, Sem.run_bind, h, Result.andThen_ok, Sem.run_pure]
theorem u8A_set (l : List Int) (i : Nat) (z : Int) : (u8A l).setIfInBounds i (.int .u8 z) = u8A (l.set i z) := by simp [u8A, List.map_set]
theorem index8 (T : List Int) (hT : T.length = 8) (i : Nat) (hi : i < 8) (w : World) : (Instr.index 79 (.agg (u32A T)) (.int .i64 (i : Int))).run Tryd.prog w = .ok (.int .u32 (T.getD i 0)) w := by
  have h := Tryd.underlying79
  have hc : Tryd.prog.cellsOf 78 = 1 := by kernel_rfl
  have hb : (0 : Int) ≤ (i : Int) ∧ (i : Int) < 8 := by omega
  have hu := Tryd.underlying78
  have hg := u32A_getD T i (by omega)
  rw [List.getD_eq_getElem?_getD] at hg
  simp [Instr.index, run_underlying h, asIntOf, hb, go_sem, hi, hg]
/-- Thirty-two numbers that are bytes. -/
def By32 (l : List Int) : Prop := l.length = 32 ∧ ∀ c ∈ l, 0 ≤ c ∧ c < 256
theorem By32.zero : By32 (List.replicate 32 0) := ⟨by simp, fun c hc => by rw [List.eq_of_mem_replicate hc]; decide⟩
theorem By32.set {l : List Int} (h : By32 l) {q : Nat} (z : Int) (hz : 0 ≤ z ∧ z < 256) : By32 (l.set q z) :=
  ⟨by rw [List.length_set]; exact h.1, fun c hc => by
    rcases List.mem_or_eq_of_mem_set hc with h1 | h1
    · exact h.2 c h1
    · rw [h1]; exact hz⟩
theorem By32.bytes {l : List Int} (h : By32 l) : ∃ D : List UInt8, D.length = 32 ∧ u8A l = (bytesU D).toArray := by
  refine ⟨l.map fun c => UInt8.ofNat c.toNat, by rw [List.length_map]; exact h.1, ?_⟩
  have h2 := h.2
  clear h
  unfold u8A bytesU
  rw [List.map_map]
  congr 1
  refine List.map_congr_left fun c hc => ?_
  have := h2 c hc
  show Value.int .u8 c = Value.int .u8 ((UInt8.ofNat c.toNat).toNat : Int)
  have h8 : (UInt8.ofNat c.toNat).toNat = c.toNat := by simp; omega
  rw [h8]
  congr 1
  omega
/-- The blocks one after the other; the bytes of eight words. -/
def toS8 (l : List Int) : S8 := ⟨l.getD 0 0, l.getD 1 0, l.getD 2 0, l.getD 3 0, l.getD 4 0, l.getD 5 0, l.getD 6 0, l.getD 7 0⟩
def runB (T : List Int) : Nat → S8 → List UInt8 → S8
  | 0, s, _ => s
  | n + 1, s, l => runB T n (toS8 (blockF T s (nums (l.take 64)))) (l.drop 64)
def startS : S8 := ⟨1779033703, 3144134277, 1013904242, 2773480762, 1359893119, 2600822924, 528734635, 1541459225⟩
def outB (S : List Int) (q : Nat) : Int := S.getD (q / 4) 0 / 2 ^ (24 - 8 * (q % 4)) % 256
def outL (S : List Int) : Nat → List Int
  | 0 => List.replicate 32 0
  | q + 1 => (outL S q).set q (outB S q)
theorem outL_by (S : List Int) : ∀ q, By32 (outL S q)
  | 0 => By32.zero
  | q + 1 => (outL_by S q).set _ (by unfold outB; omega)
def padded (l : List UInt8) : List UInt8 := l ++ padF l.length
def shaS (T : List Int) (l : List UInt8) : List Int := (runB T ((padded l).length / 64) startS (padded l)).list
def shaF (T : List Int) (l : List UInt8) : List UInt8 := (outL (shaS T l) 32).map fun c => UInt8.ofNat c.toNat
theorem shaF_length (T : List Int) (l : List UInt8) : (shaF T l).length = 32 := by unfold shaF; rw [List.length_map]; exact (outL_by _ 32).1
theorem padF_length (n : Nat) : (padF n).length = 9 + padK n := by unfold padF; simp [lensC]; omega
theorem outB_at (S : List Int) (i k q : Nat) (hq : 4 * i + k = q) (hk : k < 4) : outB S q = S.getD i 0 / 2 ^ (24 - 8 * k) % 256 := by
  unfold outB
  rw [show q / 4 = i by omega, show q % 4 = k by omega]
theorem toS8_of (t0 t1 t2 t3 t4 t5 t6 t7 : Int) : toS8 [t0, t1, t2, t3, t4, t5, t6, t7] = ⟨t0, t1, t2, t3, t4, t5, t6, t7⟩ := rfl
theorem By32.exact {l : List Int} (h : By32 l) : u8A l = (bytesU (l.map fun c => UInt8.ofNat c.toNat)).toArray := by
  have h2 := h.2
  unfold u8A bytesU
  rw [List.map_map]
  congr 1
  refine List.map_congr_left fun c hc => ?_
  have := h2 c hc
  show Value.int .u8 c = Value.int .u8 ((UInt8.ofNat c.toNat).toNat : Int)
  have h8 : (UInt8.ofNat c.toNat).toNat = c.toNat := by simp; omega
  rw [h8]
  congr 1
  omega
set_option maxHeartbeats 1600000 in
theorem digest_ex (A : Option Addr) (c : Nat) (vs : List (Value × List UInt8)) (hn : vs.length ≤ 1000000) (hl : (joinP vs).length ≤ 1000000000) (T : List Int) (hTl : T.length = 64) (w : World) (hT : w.heap[0]? = some (.cells (u32A T) 96)) (hr : RdP w A vs) :
    Calls Tryd.prog 26 #[.slice A vs.length c] w fun e w' => e = .returned (.agg (bytesU (shaF T (joinP vs))).toArray) ∧ Below w.heap.size w w' := by
  have hpos : 0 < w.heap.size := (Array.getElem?_eq_some_iff.1 hT).1
  have HT := Lib.hid (fun W (h : Below w.heap.size w W) => (h.block 0 hpos).trans hT)
  have HTl := Lib.hid hTl
  have Hr := Lib.hid (fun W (h : Below w.heap.size w W) => hr.below h)
  have o0 := (Own.start w.heap.size w).new (Nat.le_refl _) 25 (u8A (List.replicate 32 0))
  have b0 := (Below.refl w.heap.size w).alloc (Nat.le_refl _) (.cells (u8A (List.replicate 32 0)) 25)
  have o1 := o0.rw_nil 5 1
  have n1 : (vs.length : Int) ≤ 1000000 := by omega
  have Hl := Lib.hid hl
  clear hr hT hTl hpos o0 hl
  obtain ⟨SF, hSF⟩ : ∃ SF, runB T ((padded (joinP vs)).length / 64) startS (padded (joinP vs)) = SF := ⟨_, rfl⟩
  have HSF := Lib.hid hSF
  clear hSF
  go_enter Tryd.func26, Tryd.ntmps26
  go_wp2
  generalize hX0 : w.heap.size = X0 at *
  go_loopg [3, 13] vs.length (fun kk v3 v13 wr => ∃ (i : Nat) (out : List UInt8) (A' : Option Addr) (c' : Nat), kk + i = vs.length ∧ v13 = .int .i64 (i : Int) ∧ v3 = .slice A' out.length c' ∧ Hid (out = joinP (vs.take i)) ∧ Own X0 (Rw 5 1 (.slice A' out.length c') out.length (bytesU out) * (Bk X0 25 (u8A (List.replicate 32 0)) * Emp)) wr ∧ Below X0 w wr)
  case atStart => exact ⟨0, [], none, 0, by omega, rfl, rfl, Lib.hid rfl, o1, b0⟩
  case round =>
    clear o1 b0
    obtain ⟨i, out, A', c', hk, rfl, rfl, he, ho, hb⟩ := hrel
    have i0 : (0 : Int) ≤ (i : Int) := by omega
    have Bw : X0 ≤ wr.heap.size := by rw [← hX0]; exact hb.size
    by_cases hlt : (i : Int) < (vs.length : Int)
    · obtain ⟨j, rfl⟩ : ∃ j, gk = j + 1 := ⟨gk - 1, by omega⟩
      have hil : i < vs.length := by omega
      obtain ⟨b, off, rfl, hc⟩ := (Hr.out wr hb).1 i hil
      have hrd := (Hr.out wr hb).2 _ (List.getElem_mem hil)
      have hjt := joinP_take vs i hil
      have hle := joinP_le vs (i + 1)
      have hlen := Hl.out
      rw [hjt, ← he.out, List.length_append] at hle
      obtain ⟨Av, cv, hv⟩ : ∃ A c, vs[i].1 = .slice A vs[i].2.length c := by obtain ⟨A, c, h, _⟩ := hrd; exact ⟨A, c, by rw [h, bytesU_length]⟩
      rw [hv] at hc hrd
      obtain ⟨v', w', hrun, o2, b2⟩ := byte_append Bw ho hrd (by omega)
      have Hrun := Lib.hid hrun
      have hb2 := hb.trans b2
      have He := Lib.hid (show out ++ vs[i].2 = joinP (vs.take (i + 1)) by rw [hjt, ← he.out])
      have Hk := Lib.hid hk
      obtain ⟨A2, c2, rfl⟩ := o2.row_n
      clear hrun b2 hrd hjt hle hlen hv he ho hb hk
      generalize vs[i].2 = xs at *
      generalize out ++ xs = out2 at *
      go_wp2_with (at_builtin; refine wpList_append_run rfl (.tmp 17) (.tmp 18) 32 rfl rfl rfl Hrun.out ?_)
      go_roundg j
      case measure => omega
      case rel => exact ⟨i + 1, out2, _, _, by have := Hk.out; omega, rfl, rfl, He, o2, hb2⟩
    · have h1 := he.out
      rw [List.take_of_length_le (by omega)] at h1
      have hlo : out.length ≤ 1000000000 := by rw [h1]; exact Hl.out
      have HPad := Lib.hid (pad_ex out.length (by omega) wr)
      obtain ⟨l, hl⟩ : ∃ l, padF out.length = l := ⟨_, rfl⟩
      have hl64 : (out.length + l.length) % 64 = 0 := by rw [← hl, padF_length]; unfold padK; omega
      have hl1 : 1 ≤ l.length := by rw [← hl, padF_length]; omega
      have hl200 : l.length ≤ 200 := by rw [← hl, padF_length]; unfold padK; omega
      have HPd : Hid (out ++ l = padded (joinP vs)) := Lib.hid (by rw [← hl, ← h1]; rfl)
      rw [hl] at HPad
      have Hl64 := Lib.hid (And.intro hl64 (And.intro hl1 hl200))
      clear hl64 hl1 hl200 h1 hl
      have lo : (out.length : Int) ≤ 1000000000 := by omega
      clear he hk hlo
      go_wp2_with fail
      refine HPad.out.mono ?_
      rintro e w1 ⟨v1, rfl, o1, b1⟩
      obtain ⟨hl64, hl1, hl200⟩ := Hl64.out
      have oP := Own.fresh Bw ho o1 b1
      have hb1 := hb.trans (b1.mono Bw)
      have B1 := Nat.le_trans Bw b1.size
      obtain ⟨A1, c1, rfl⟩ := oP.row_n
      obtain ⟨v', w2, hrun, o2, b2⟩ := byte_append B1 (oP.foc (Rw 5 1 (.slice A' out.length c') out.length (bytesU out))) oP.rd (by omega)
      have Hrun := Lib.hid hrun
      have hb2 := hb1.trans b2
      have B2 := Nat.le_trans B1 b2.size
      have h64 : (out ++ l).length % 64 = 0 := by rw [List.length_append]; exact hl64
      have hlen : (out ++ l).length ≤ 1000000200 := by rw [List.length_append]; omega
      have HSt := Lib.hid (start_any w2)
      have o2 := o2.cast (show _ = Rw 5 1 v' (out ++ l).length (bytesU (out ++ l)) * (Bk X0 25 (u8A (List.replicate 32 0)) * (Rw 5 1 (.slice A1 l.length c1) l.length (bytesU l) * Emp)) by ac_rfl)
      obtain ⟨A2, c2, rfl⟩ := o2.row_n
      have Hb64 := Lib.hid (And.intro h64 hlen)
      have HRB : Hid (runB T ((out ++ l).length / 64) startS (out ++ l) = SF) := Lib.hid (by rw [HPd.out]; exact HSF.out)
      clear HPd Hl64
      clear hrun b2 o1 b1 oP hl64 hl1 hl200 h64 hlen ho hb hb1 HPad B1
      generalize out ++ l = bb at *
      go_wp2_with first
        | (at_builtin; refine wpList_append_run rfl (.tmp 21) (.tmp 24) 32 rfl rfl rfl Hrun.out ?_)
      refine HSt.out.mono ?_
      rintro e w3 ⟨rfl, b3⟩
      have o3 := o2.grown B2 b3
      have hb3 := hb2.trans (b3.mono B2)
      have r3 := o3.rd
      have cap3 := o3.cap
      have M0 : Below w3.heap.size w3 w3 := Below.refl _ _
      have o6 := (Own.start w3.heap.size w3).new (Nat.le_refl _) 79 #[.int .u32 1779033703, .int .u32 3144134277, .int .u32 1013904242, .int .u32 2773480762, .int .u32 1359893119, .int .u32 2600822924, .int .u32 528734635, .int .u32 1541459225]
      have b6 := M0.alloc (Nat.le_refl _) (.cells #[.int .u32 1779033703, .int .u32 3144134277, .int .u32 1013904242, .int .u32 2773480762, .int .u32 1359893119, .int .u32 2600822924, .int .u32 528734635, .int .u32 1541459225] 79)
      obtain ⟨g1, g2⟩ := Hb64.out
      have HT3 := Lib.hid (fun W (h : Below w3.heap.size w3 W) => HT.out W (hb3.trans (h.mono (by rw [← hX0]; exact hb3.size))))
      have R3 := Lib.hid (And.intro r3 cap3)
      clear o2 b3 B2 hb2 HSt M0 r3 cap3 Hb64 HT
      go_wp2
      generalize hM : w3.heap.size = M at *
      go_loopg [3] bb.length (fun kk v3 wr => ∃ (rest : List UInt8) (A3 : Option Addr) (c3 : Nat) (a0 a1 a2 a3 a4 a5 a6 a7 : Int), kk = rest.length ∧ v3 = .slice A3 rest.length c3 ∧ (rest.length ≤ c3 ∧ c3 ≤ 9223372036854775807) ∧ rest.length % 64 = 0 ∧ rest.length ≤ 1000000200 ∧ Hid (Rd w3 (.slice A3 rest.length c3) (bytesU rest)) ∧ Hid (runB T (rest.length / 64) ⟨a0, a1, a2, a3, a4, a5, a6, a7⟩ rest = SF) ∧ Own M (Bk M 79 #[.int .u32 a0, .int .u32 a1, .int .u32 a2, .int .u32 a3, .int .u32 a4, .int .u32 a5, .int .u32 a6, .int .u32 a7] * Emp) wr ∧ Below M w3 wr)
      case atStart => exact ⟨bb, _, _, _, _, _, _, _, _, _, _, rfl, rfl, R3.out.2, g1, g2, Lib.hid R3.out.1, HRB, o6, b6⟩
      case round =>
        clear o6 b6 R3 g1 g2 HRB
        obtain ⟨rest, A3, c3, a0, a1, a2, a3, a4, a5, a6, a7, rfl, rfl, hcap, h64, hlen, hR, hB, ho, hb⟩ := hrel
        have Bw : M ≤ wr.heap.size := by rw [← hM]; exact hb.size
        by_cases hlt : (0 : Int) < (rest.length : Int)
        · have h64le : 64 ≤ rest.length := by omega
          have hrd := hR.out.below (hM ▸ hb)
          obtain ⟨b0, o0, rfl, _⟩ := hrd.at' 0 (by omega)
          have n64 : (64 : Int) ≤ (rest.length : Int) := by omega
          have hinf : (Tryd.prog.info? 82).map (·.size) = some (bytesU (rest.take 64)).length := by rw [bytesU_length, List.length_take, Nat.min_eq_left h64le]; kernel_rfl
          have Hld := Lib.hid (fun W (h : Below M w3 W) => load_chunk b0 o0 rest c3 h64le W (hR.out.below (hM ▸ h)))
          have hxl : (nums (rest.take 64)).length = 64 := by unfold nums; rw [List.length_map, List.length_take]; omega
          have hxb : byteL (nums (rest.take 64)) := by
            intro c hc
            obtain ⟨u, _, rfl⟩ := List.mem_map.1 hc
            have := u.toNat_lt
            omega
          have HBl := Lib.hid (fun W (h : Below M w3 W) => block_ex a0 a1 a2 a3 a4 a5 a6 a7 (nums (rest.take 64)) hxl hxb T HTl.out W (HT3.out W (hM ▸ h)))
          have HBs : Hid (runB T ((rest.drop 64).length / 64) (toS8 (blockF T ⟨a0, a1, a2, a3, a4, a5, a6, a7⟩ (nums (rest.take 64)))) (rest.drop 64) = SF) := Lib.hid (by
            have := hB.out
            rw [show rest.length / 64 = (rest.drop 64).length / 64 + 1 by rw [List.length_drop]; omega] at this
            exact this)
          clear hB
          have Hn : Hid (∀ A4 c4, Rd w3 (.slice A4 (rest.length - 64) c4) (bytesU (rest.drop 64)) → rest.length - 64 ≤ c4 → c4 ≤ 9223372036854775807 → Rd w3 (.slice A4 (rest.drop 64).length c4) (bytesU (rest.drop 64))) := Lib.hid (fun A4 c4 h _ _ => by rw [List.length_drop]; exact h)
          have harr := fun W : World => run_arrayAt (P := Tryd.prog) (w := W) 82 5 64 (some ⟨b0, o0, none⟩) rest.length c3 Tryd.underlying82 h64le
          clear hxl hxb hinf hrd
          generalize nums (rest.take 64) = x at *
          go_wp2
          refine wp_region_mix (St M (Bk M 79 #[.int .u32 a0, .int .u32 a1, .int .u32 a2, .int .u32 a3, .int .u32 a4, .int .u32 a5, .int .u32 a6, .int .u32 a7] * Emp) wr) [0, 1, 2, 3] [4, 5] mixed (by kernel_rfl) rfl (St.drew Bw ho) ?_
          simp only [List.filterMap_cons, List.filterMap_nil, List.getElem?_toArray, List.getElem?_cons_succ, List.getElem?_cons_zero]
          repeat (first
            | (refine held_val ?_ rfl (fun w1 hS => ?_) ?_
               rotate_left
               · (have c0 := hS.2.1.cell 0; have c1 := hS.2.1.cell 1; have c2 := hS.2.1.cell 2; have c3 := hS.2.1.cell 3; have c4 := hS.2.1.cell 4; have c5 := hS.2.1.cell 5; have c6 := hS.2.1.cell 6; have c7 := hS.2.1.cell 7; have hld := 0
                  go_simp
                  try go_bits
                  rfl)
               simp only [Act.put, List.setIfInBounds_toArray, List.set_cons_zero, List.set_cons_succ])
            | (refine held_off rfl ?_
               simp only [Act.put, List.setIfInBounds_toArray, List.set_cons_zero, List.set_cons_succ]))
          refine held_val (.agg (u8A x)) rfl (fun w1 hS => ?_) ?_
          · have hld := Hld.out w1 (hb.trans hS.2.2)
            exact exec_load rfl rfl hld
          simp only [Act.put, List.setIfInBounds_toArray, List.set_cons_zero, List.set_cons_succ]
          refine held_nil (fun w9 hS => ?_)
          obtain ⟨B9, o9, b9⟩ := hS
          have hb9 := hb.trans b9
          have HB9 := Lib.hid (HBl.out w9 hb9)
          clear HBl Hld harr ho hb b9
          go_wp2_with fail
          refine HB9.out.mono ?_
          rintro e wa ⟨he, ba⟩
          obtain ⟨t0, t1, t2, t3, t4, t5, t6, t7, ht⟩ := list8 _ (blockF_length T ⟨a0, a1, a2, a3, a4, a5, a6, a7⟩ x)
          rw [ht] at he
          rw [ht, toS8_of] at HBs
          obtain rfl : e = .returned (.agg #[.int .u32 t0, .int .u32 t1, .int .u32 t2, .int .u32 t3, .int .u32 t4, .int .u32 t5, .int .u32 t6, .int .u32 t7]) := he
          clear ht
          have oa := o9.grown B9 ba
          have hba := hb9.trans (ba.mono B9)
          have Ba := Nat.le_trans B9 ba.size
          have c0 := oa.cell 0
          have c1 := oa.cell 1
          have c2 := oa.cell 2
          have c4 := oa.cell 4
          have c5 := oa.cell 5
          have c6 := oa.cell 6
          have c7 := oa.cell 7
          have c3' := oa.cell 3
          have z0 := oa.unfrozen 0
          have z1 := oa.unfrozen 1
          have z2 := oa.unfrozen 2
          have z3 := oa.unfrozen 3
          have z4 := oa.unfrozen 4
          have z5 := oa.unfrozen 5
          have z6 := oa.unfrozen 6
          have z7 := oa.unfrozen 7
          obtain ⟨p, pb⟩ := oa.set8 Ba (.int .u32 t0) (.int .u32 t1) (.int .u32 t2) (.int .u32 t3) (.int .u32 t4) (.int .u32 t5) (.int .u32 t6) (.int .u32 t7)
          have Fin := Lib.hid (And.intro p (hba.trans pb))
          have hdl : (rest.drop 64).length = rest.length - 64 := List.length_drop
          have Hd := Lib.hid (show (rest.drop 64).length % 64 = 0 ∧ (rest.drop 64).length ≤ 1000000200 ∧ (rest.drop 64).length < rest.length by omega)
          have n3 : (rest.length : Int) ≤ (c3 : Int) := by omega
          have Hdl := Lib.hid hdl
          clear oa ba p pb o9 B9 hb9 HB9 hba Ba hdl
          by_cases hc64 : c3 = 64
          · have hr64 : rest.length = 64 := by omega
            have hd0 : rest.drop 64 = [] := List.drop_eq_nil_of_le (by omega)
            have Hd0 := Lib.hid hd0
            have Hrd : Hid (Rd w3 (.slice (some ⟨b0, o0, none⟩) ([] : List UInt8).length 0) (bytesU [])) := Lib.hid ⟨_, _, rfl, fun h => absurd rfl h⟩
            subst hc64
            clear hd0
            go_wp2
            go_roundg 0
            case measure => omega
            case rel => exact ⟨[], _, _, _, _, _, _, _, _, _, _, rfl, rfl, by simp, rfl, by simp, Hrd, Lib.hid (by have := HBs.out; rw [Hd0.out] at this; exact this), Fin.out.1, Fin.out.2⟩
          · have Hrd := Lib.hid (And.intro (rd_drop64 hR.out hc64 h64le) (show (rest.drop 64).length ≤ c3 - 64 ∧ c3 - 64 ≤ 9223372036854775807 by rw [Hdl.out]; omega))
            go_wp2
            go_roundg (rest.drop 64).length
            case measure => exact Hd.out.2.2
            case rel => exact ⟨rest.drop 64, _, _, _, _, _, _, _, _, _, _, rfl, by rw [Hdl.out], Hrd.out.2, Hd.out.1, Hd.out.2.1, Lib.hid Hrd.out.1, Lib.hid HBs.out, Fin.out.1, Fin.out.2⟩
        · have c0 : wr.cell? ⟨M, 0, none⟩ = some (.int .u32 a0) := ho.cell 0
          have c1 : wr.cell? ⟨M, 1, none⟩ = some (.int .u32 a1) := ho.cell 1
          have c2 : wr.cell? ⟨M, 2, none⟩ = some (.int .u32 a2) := ho.cell 2
          have c3' : wr.cell? ⟨M, 3, none⟩ = some (.int .u32 a3) := ho.cell 3
          have c4 : wr.cell? ⟨M, 4, none⟩ = some (.int .u32 a4) := ho.cell 4
          have c5 : wr.cell? ⟨M, 5, none⟩ = some (.int .u32 a5) := ho.cell 5
          have c6 : wr.cell? ⟨M, 6, none⟩ = some (.int .u32 a6) := ho.cell 6
          have c7 : wr.cell? ⟨M, 7, none⟩ = some (.int .u32 a7) := ho.cell 7
          have o10 := ho.new Bw 25 #[.int .u8 0, .int .u8 0, .int .u8 0, .int .u8 0, .int .u8 0, .int .u8 0, .int .u8 0, .int .u8 0, .int .u8 0, .int .u8 0, .int .u8 0, .int .u8 0, .int .u8 0, .int .u8 0, .int .u8 0, .int .u8 0, .int .u8 0, .int .u8 0, .int .u8 0, .int .u8 0, .int .u8 0, .int .u8 0, .int .u8 0, .int .u8 0, .int .u8 0, .int .u8 0, .int .u8 0, .int .u8 0, .int .u8 0, .int .u8 0, .int .u8 0, .int .u8 0]
          have b10 := hb.alloc Bw (.cells #[.int .u8 0, .int .u8 0, .int .u8 0, .int .u8 0, .int .u8 0, .int .u8 0, .int .u8 0, .int .u8 0, .int .u8 0, .int .u8 0, .int .u8 0, .int .u8 0, .int .u8 0, .int .u8 0, .int .u8 0, .int .u8 0, .int .u8 0, .int .u8 0, .int .u8 0, .int .u8 0, .int .u8 0, .int .u8 0, .int .u8 0, .int .u8 0, .int .u8 0, .int .u8 0, .int .u8 0, .int .u8 0, .int .u8 0, .int .u8 0, .int .u8 0, .int .u8 0] 25)
          have d0 : (wr.alloc (.cells #[.int .u8 0, .int .u8 0, .int .u8 0, .int .u8 0, .int .u8 0, .int .u8 0, .int .u8 0, .int .u8 0, .int .u8 0, .int .u8 0, .int .u8 0, .int .u8 0, .int .u8 0, .int .u8 0, .int .u8 0, .int .u8 0, .int .u8 0, .int .u8 0, .int .u8 0, .int .u8 0, .int .u8 0, .int .u8 0, .int .u8 0, .int .u8 0, .int .u8 0, .int .u8 0, .int .u8 0, .int .u8 0, .int .u8 0, .int .u8 0, .int .u8 0, .int .u8 0] 25)).cell? ⟨M, 0, none⟩ = some (.int .u32 a0) := o10.cellOf M 0
          have d1 : (wr.alloc (.cells #[.int .u8 0, .int .u8 0, .int .u8 0, .int .u8 0, .int .u8 0, .int .u8 0, .int .u8 0, .int .u8 0, .int .u8 0, .int .u8 0, .int .u8 0, .int .u8 0, .int .u8 0, .int .u8 0, .int .u8 0, .int .u8 0, .int .u8 0, .int .u8 0, .int .u8 0, .int .u8 0, .int .u8 0, .int .u8 0, .int .u8 0, .int .u8 0, .int .u8 0, .int .u8 0, .int .u8 0, .int .u8 0, .int .u8 0, .int .u8 0, .int .u8 0, .int .u8 0] 25)).cell? ⟨M, 1, none⟩ = some (.int .u32 a1) := o10.cellOf M 1
          have d2 : (wr.alloc (.cells #[.int .u8 0, .int .u8 0, .int .u8 0, .int .u8 0, .int .u8 0, .int .u8 0, .int .u8 0, .int .u8 0, .int .u8 0, .int .u8 0, .int .u8 0, .int .u8 0, .int .u8 0, .int .u8 0, .int .u8 0, .int .u8 0, .int .u8 0, .int .u8 0, .int .u8 0, .int .u8 0, .int .u8 0, .int .u8 0, .int .u8 0, .int .u8 0, .int .u8 0, .int .u8 0, .int .u8 0, .int .u8 0, .int .u8 0, .int .u8 0, .int .u8 0, .int .u8 0] 25)).cell? ⟨M, 2, none⟩ = some (.int .u32 a2) := o10.cellOf M 2
          have d3 : (wr.alloc (.cells #[.int .u8 0, .int .u8 0, .int .u8 0, .int .u8 0, .int .u8 0, .int .u8 0, .int .u8 0, .int .u8 0, .int .u8 0, .int .u8 0, .int .u8 0, .int .u8 0, .int .u8 0, .int .u8 0, .int .u8 0, .int .u8 0, .int .u8 0, .int .u8 0, .int .u8 0, .int .u8 0, .int .u8 0, .int .u8 0, .int .u8 0, .int .u8 0, .int .u8 0, .int .u8 0, .int .u8 0, .int .u8 0, .int .u8 0, .int .u8 0, .int .u8 0, .int .u8 0] 25)).cell? ⟨M, 3, none⟩ = some (.int .u32 a3) := o10.cellOf M 3
          have d4 : (wr.alloc (.cells #[.int .u8 0, .int .u8 0, .int .u8 0, .int .u8 0, .int .u8 0, .int .u8 0, .int .u8 0, .int .u8 0, .int .u8 0, .int .u8 0, .int .u8 0, .int .u8 0, .int .u8 0, .int .u8 0, .int .u8 0, .int .u8 0, .int .u8 0, .int .u8 0, .int .u8 0, .int .u8 0, .int .u8 0, .int .u8 0, .int .u8 0, .int .u8 0, .int .u8 0, .int .u8 0, .int .u8 0, .int .u8 0, .int .u8 0, .int .u8 0, .int .u8 0, .int .u8 0] 25)).cell? ⟨M, 4, none⟩ = some (.int .u32 a4) := o10.cellOf M 4
          have d5 : (wr.alloc (.cells #[.int .u8 0, .int .u8 0, .int .u8 0, .int .u8 0, .int .u8 0, .int .u8 0, .int .u8 0, .int .u8 0, .int .u8 0, .int .u8 0, .int .u8 0, .int .u8 0, .int .u8 0, .int .u8 0, .int .u8 0, .int .u8 0, .int .u8 0, .int .u8 0, .int .u8 0, .int .u8 0, .int .u8 0, .int .u8 0, .int .u8 0, .int .u8 0, .int .u8 0, .int .u8 0, .int .u8 0, .int .u8 0, .int .u8 0, .int .u8 0, .int .u8 0, .int .u8 0] 25)).cell? ⟨M, 5, none⟩ = some (.int .u32 a5) := o10.cellOf M 5
          have d6 : (wr.alloc (.cells #[.int .u8 0, .int .u8 0, .int .u8 0, .int .u8 0, .int .u8 0, .int .u8 0, .int .u8 0, .int .u8 0, .int .u8 0, .int .u8 0, .int .u8 0, .int .u8 0, .int .u8 0, .int .u8 0, .int .u8 0, .int .u8 0, .int .u8 0, .int .u8 0, .int .u8 0, .int .u8 0, .int .u8 0, .int .u8 0, .int .u8 0, .int .u8 0, .int .u8 0, .int .u8 0, .int .u8 0, .int .u8 0, .int .u8 0, .int .u8 0, .int .u8 0, .int .u8 0] 25)).cell? ⟨M, 6, none⟩ = some (.int .u32 a6) := o10.cellOf M 6
          have d7 : (wr.alloc (.cells #[.int .u8 0, .int .u8 0, .int .u8 0, .int .u8 0, .int .u8 0, .int .u8 0, .int .u8 0, .int .u8 0, .int .u8 0, .int .u8 0, .int .u8 0, .int .u8 0, .int .u8 0, .int .u8 0, .int .u8 0, .int .u8 0, .int .u8 0, .int .u8 0, .int .u8 0, .int .u8 0, .int .u8 0, .int .u8 0, .int .u8 0, .int .u8 0, .int .u8 0, .int .u8 0, .int .u8 0, .int .u8 0, .int .u8 0, .int .u8 0, .int .u8 0, .int .u8 0] 25)).cell? ⟨M, 7, none⟩ = some (.int .u32 a7) := o10.cellOf M 7
          have HSFL : Hid ([a0, a1, a2, a3, a4, a5, a6, a7] = shaS T (joinP vs)) := Lib.hid (by
            have := hB.out
            rw [show rest.length = 0 by omega] at this
            unfold shaS
            rw [HSF.out, ← this]
            rfl)
          clear ho hb hR hB
          go_wp2
          generalize hX7 : wr.heap.size = X7 at *
          clear c0 c1 c2 c3' c4 c5 c6 c7 d0 d1 d2 d3 d4 d5 d6 d7 Bw hX7
          go_loopg [38] 8 (fun kk v38 wr => ∃ (i : Nat) (l : List Int), kk + i = 8 ∧ v38 = .int .i64 (i : Int) ∧ By32 l ∧ Hid (l = outL [a0, a1, a2, a3, a4, a5, a6, a7] (4 * i)) ∧ Own M (Bk X7 25 (u8A l) * (Bk M 79 #[.int .u32 a0, .int .u32 a1, .int .u32 a2, .int .u32 a3, .int .u32 a4, .int .u32 a5, .int .u32 a6, .int .u32 a7] * Emp)) wr ∧ Below M w3 wr)
          case atStart => exact ⟨0, List.replicate 32 0, rfl, rfl, By32.zero, Lib.hid rfl, o10, b10⟩
          case round =>
            clear o10 b10
            obtain ⟨i, l, hk, rfl, hl, hO, ho, hb⟩ := hrel
            have i0 : (0 : Int) ≤ (i : Int) := by omega
            have Bw : M ≤ wr.heap.size := by rw [← hM]; exact hb.size
            by_cases hi8 : (i : Int) < 8
            · obtain ⟨j, rfl⟩ : ∃ j, gk = j + 1 := ⟨gk - 1, by omega⟩
              have hix := fun W => index8 [a0, a1, a2, a3, a4, a5, a6, a7] rfl i (by omega) W
              rw [show u32A [a0, a1, a2, a3, a4, a5, a6, a7] = #[.int .u32 a0, .int .u32 a1, .int .u32 a2, .int .u32 a3, .int .u32 a4, .int .u32 a5, .int .u32 a6, .int .u32 a7] from rfl] at hix
              generalize hxi : List.getD [a0, a1, a2, a3, a4, a5, a6, a7] i 0 = xi at hix
              have Hxi := Lib.hid hxi
              clear hxi
              have Hk := Lib.hid hk
              clear hk
              go_wp2
              go_loopg [42] 4 (fun kk v42 wr => ∃ (k : Nat) (l : List Int), kk + k = 4 ∧ v42 = .int .i64 (k : Int) ∧ By32 l ∧ Hid (l = outL [a0, a1, a2, a3, a4, a5, a6, a7] (4 * i + k)) ∧ Own M (Bk X7 25 (u8A l) * (Bk M 79 #[.int .u32 a0, .int .u32 a1, .int .u32 a2, .int .u32 a3, .int .u32 a4, .int .u32 a5, .int .u32 a6, .int .u32 a7] * Emp)) wr ∧ Below M w3 wr)
              case atStart => exact ⟨0, l, rfl, rfl, hl, hO, ho, hb⟩
              case round =>
                clear ho hb hl Bw hO
                obtain ⟨k, l, hk, rfl, hl, hO, ho, hb⟩ := hrel
                have Bw : M ≤ wr.heap.size := by rw [← hM]; exact hb.size
                by_cases hk4 : (k : Int) < 4
                · obtain ⟨j2, rfl⟩ : ∃ j2, gk = j2 + 1 := ⟨gk - 1, by omega⟩
                  obtain ⟨q, hq⟩ : ∃ q, 4 * i + k = q := ⟨_, rfl⟩
                  have e1 : (4 : Int) * (i : Int) + (k : Int) = (q : Int) := by omega
                  have q32 : q < l.length := by rw [hl.1]; omega
                  have q1 : (q : Int) < 32 := by omega
                  have q0 : (0 : Int) ≤ (q : Int) := by omega
                  have cq := (ho.cell q).trans (u8A_get l q q32)
                  have zq := ho.unfrozen q
                  have Fin := Lib.hid (fun z => (And.intro ((u8A_set l q z) ▸ (ho.set Bw q (.int .u8 z))) (hb.trans (ho.below_set q (.int .u8 z)))))
                  have Hl := Lib.hid (And.intro hk hl)
                  have HO := Lib.hid (fun z (hz : z = xi / 2 ^ (24 - 8 * k) % 256) => show l.set q z = outL [a0, a1, a2, a3, a4, a5, a6, a7] (4 * i + (k + 1)) from by
                    rw [show 4 * i + (k + 1) = q + 1 by omega, outL, ← hq, ← hO.out, hq, outB_at _ i k q hq (by omega), Hxi.out, hz])
                  have hk4' : k < 4 := by omega
                  generalize l[q] = lq at cq
                  clear hq q32 ho hb hl hk hO
                  match k, hk4' with
                  | 0, _ => have e2 : (4 : Int) * (i : Int) = (q : Int) := by omega
                            clear e1
                            go_wp2
                            go_roundg j2
                            case measure => omega
                            case rel => exact ⟨_, l.set q _, by have := Hl.out.1; omega, rfl, Hl.out.2.set _ (by omega), Lib.hid (HO.out _ (by first | rfl | simp)), (Fin.out _).1, (Fin.out _).2⟩
                  | 1, _ => have e2 : (4 : Int) * (i : Int) + 1 = (q : Int) := by omega
                            clear e1
                            go_wp2
                            go_roundg j2
                            case measure => omega
                            case rel => exact ⟨_, l.set q _, by have := Hl.out.1; omega, rfl, Hl.out.2.set _ (by omega), Lib.hid (HO.out _ (by first | rfl | simp)), (Fin.out _).1, (Fin.out _).2⟩
                  | 2, _ => have e2 : (4 : Int) * (i : Int) + 2 = (q : Int) := by omega
                            clear e1
                            go_wp2
                            go_roundg j2
                            case measure => omega
                            case rel => exact ⟨_, l.set q _, by have := Hl.out.1; omega, rfl, Hl.out.2.set _ (by omega), Lib.hid (HO.out _ (by first | rfl | simp)), (Fin.out _).1, (Fin.out _).2⟩
                  | 3, _ => have e2 : (4 : Int) * (i : Int) + 3 = (q : Int) := by omega
                            clear e1
                            go_wp2
                            go_roundg j2
                            case measure => omega
                            case rel => exact ⟨_, l.set q _, by have := Hl.out.1; omega, rfl, Hl.out.2.set _ (by omega), Lib.hid (HO.out _ (by first | rfl | simp)), (Fin.out _).1, (Fin.out _).2⟩
                · go_wp2
                  go_roundg j
                  case measure => omega
                  case rel => exact ⟨i + 1, l, by have := Hk.out; omega, rfl, hl, Lib.hid (by have := hO.out; rw [show k = 4 by omega] at this; rw [show 4 * (i + 1) = 4 * i + 4 by omega]; exact this), ho, hb⟩
            · have hXM : X0 < M := by
                have := (o3.foc (Bk X0 25 (u8A (List.replicate 32 0)))).bk.2.2
                omega
              have H0 := (hb.block X0 (by omega)).trans (o3.foc (Bk X0 25 (u8A (List.replicate 32 0)))).bk.1
              have H7 := ho.bk.1
              have hls : (u8A l).size = 32 := by simp [u8A, hl.1]
              have hinf : (Tryd.prog.info? 25).map (·.size) = some (u8A l).size := by rw [hls]; kernel_rfl
              have hone : (u8A l).all (·.oneCell') = true := by simp [u8A, Value.oneCell']
              have hold : (u8A (List.replicate 32 0)).size = (u8A l).size := by rw [hls]; simp [u8A]
              have hbw : Below X0 w wr := hb3.trans (hb.mono (by rw [← hX0, ← hM]; exact hb3.size))
              have hst := setRow_heap wr X0 (u8A (List.replicate 32 0)) (u8A l) 25 (0, 0) H0
              have hbs := below_setRow hbw (Nat.le_refl X0) (u8A l)
              have Hfin := Lib.hid (And.intro hst (And.intro hbs (And.intro (show u8A l = (bytesU (shaF T (joinP vs))).toArray by unfold shaF; rw [← HSFL.out, hl.exact]; have := hO.out; rw [show 4 * i = 32 by omega] at this; rw [this]) hinf)))
              have H0' := Lib.hid H0
              have H7' := Lib.hid H7
              clear hst hbs H0 H7 hbw
              go_wp2_with first
                | (refine wpList_load_row rfl 25 (.tmp 7) rfl X7 rfl 25 (u8A l) (0, 0) _ H7'.out Tryd.underlying25 rfl hinf ?_)
                | (refine wpList_plain rfl fun _ hK => wp_store_row 25 (.tmp 2) (.tmp 58) rfl X0 (u8A l) rfl rfl 25 _ H0'.out hinf hold hone (hK _ _ ?_))
              refine bodyPost_ret (results_cell_row rfl _ _ X0 25 (u8A l) (0, 0) _ rfl Hfin.out.1 Tryd.underlying25 rfl hinf) rfl ?_
              exact ⟨by rw [Hfin.out.2.2.1], Hfin.out.2.1⟩
theorem digest_any (A : Option Addr) (c : Nat) (vs : List (Value × List UInt8)) (hn : vs.length ≤ 1000000) (hl : (joinP vs).length ≤ 1000000000) (w : World) (hsh : Sh w) (hr : RdP w A vs) :
    Calls Tryd.prog 26 #[.slice A vs.length c] w fun e w' => (∃ D : List UInt8, D.length = 32 ∧ e = .returned (.agg (bytesU D).toArray)) ∧ Below w.heap.size w w' := by
  obtain ⟨T, hTl, hT⟩ := table_any hsh
  refine (digest_ex A c vs hn hl T hTl w hT hr).mono ?_
  rintro e w' ⟨rfl, b⟩
  exact ⟨⟨_, shaF_length T (joinP vs), rfl⟩, b⟩
end Go.Proofs.YtmppagiaonbggaaDoor

/- The walks over the small ones of the reference's digest: word, xor, and. -/
namespace Go.Proofs.YtmppagiaonbggaaDoor
set_option linter.unusedVariables false
set_option linter.unusedSimpArgs false
set_option maxRecDepth 100000
open Go.RowKit

theorem rword_any (n : Int) (h0 : 0 ≤ n) (h1 : n ≤ 9223372036854775807) (w : World) : Calls Tryd.prog 70 #[.int .i64 n] w fun e w' => e = .returned (.int .i64 (n % 4294967296)) ∧ w' = w := by
  have hr : n.tmod 4294967296 = n % 4294967296 := by rw [Int.tmod_eq_emod_of_nonneg h0]
  go_enter Tryd.func70, Tryd.ntmps70
  go_wp2
  go_ret
  exact ⟨rfl, rfl⟩
theorem rxor_any (a b : Int) (ha : 0 ≤ a ∧ a < 4294967296) (hb : 0 ≤ b ∧ b < 4294967296) (w : World) : Calls Tryd.prog 67 #[.int .i64 a, .int .i64 b] w fun e w' => e = .returned (.int .i64 (bits .xor .u32 a b)) ∧ w' = w := by
  obtain ⟨ha0, ha1⟩ := ha
  have hlo := bits_lo_u32 .xor a b
  have hhi := bits_hi_u32 .xor a b
  obtain ⟨hb0, hb1⟩ := hb
  go_enter Tryd.func67, Tryd.ntmps67
  go_wp2
  go_ret
  exact ⟨rfl, rfl⟩
theorem rand_any (a b : Int) (ha : 0 ≤ a ∧ a < 4294967296) (hb : 0 ≤ b ∧ b < 4294967296) (w : World) : Calls Tryd.prog 71 #[.int .i64 a, .int .i64 b] w fun e w' => e = .returned (.int .i64 (bits .and .u32 a b)) ∧ w' = w := by
  obtain ⟨ha0, ha1⟩ := ha
  have hlo := bits_lo_u32 .and a b
  have hhi := bits_hi_u32 .and a b
  obtain ⟨hb0, hb1⟩ := hb
  go_enter Tryd.func71, Tryd.ntmps71
  go_wp2
  go_ret
  exact ⟨rfl, rfl⟩
/-- So many halvings, the last bit to the front; so many halvings. -/
def turnI : Nat → Int → Int
  | 0, x => x
  | n + 1, x => turnI n (x / 2 + x % 2 * 2147483648)
def shiftI : Nat → Int → Int
  | 0, x => x
  | n + 1, x => shiftI n (x / 2)
theorem rturn_any (x : Int) (h0 : 0 ≤ x) (h1 : x < 4294967296) (n : Nat) (hn : n ≤ 32) (w : World) : Calls Tryd.prog 68 #[.int .i64 x, .int .i64 (n : Int)] w fun e w' => e = .returned (.int .i64 (turnI n x)) ∧ w' = w := by
  go_enter Tryd.func68, Tryd.ntmps68
  go_wp2
  go_loopg [0, 5] n (fun kk v3 v4 wr => ∃ (i : Nat) (y : Int), kk + i = n ∧ v3 = .int .i64 y ∧ v4 = .int .i64 (i : Int) ∧ 0 ≤ y ∧ y < 4294967296 ∧ Hid (turnI kk y = turnI n x) ∧ wr = w)
  case atStart => exact ⟨0, x, rfl, rfl, rfl, h0, h1, Lib.hid rfl, rfl⟩
  case round =>
    clear h0 h1
    obtain ⟨i, y, hk, rfl, rfl, h0, h1, hT, rfl⟩ := hrel
    have i0 : (0 : Int) ≤ (i : Int) := by omega
    have hq : y.tdiv 2 = y / 2 := Int.tdiv_eq_ediv_of_nonneg h0
    have hr : y.tmod 2 = y % 2 := Int.tmod_eq_emod_of_nonneg h0
    by_cases hlt : (i : Int) < (n : Int)
    · obtain ⟨j, rfl⟩ : ∃ j, gk = j + 1 := ⟨gk - 1, by omega⟩
      go_wp2
      go_roundg j
      case measure => omega
      case rel => exact ⟨i + 1, _, by omega, rfl, rfl, by omega, by omega, Lib.hid hT.out, rfl⟩
    · have hg : gk = 0 := by omega
      subst hg
      have hT2 : y = turnI n x := hT.out
      subst hT2
      go_wp2
      go_ret
      exact ⟨rfl, rfl⟩
theorem rshift_any (x : Int) (h0 : 0 ≤ x) (h1 : x < 4294967296) (n : Nat) (hn : n ≤ 32) (w : World) : Calls Tryd.prog 69 #[.int .i64 x, .int .i64 (n : Int)] w fun e w' => e = .returned (.int .i64 (shiftI n x)) ∧ w' = w := by
  go_enter Tryd.func69, Tryd.ntmps69
  go_wp2
  go_loopg [0, 5] n (fun kk v3 v4 wr => ∃ (i : Nat) (y : Int), kk + i = n ∧ v3 = .int .i64 y ∧ v4 = .int .i64 (i : Int) ∧ 0 ≤ y ∧ y < 4294967296 ∧ Hid (shiftI kk y = shiftI n x) ∧ wr = w)
  case atStart => exact ⟨0, x, rfl, rfl, rfl, h0, h1, Lib.hid rfl, rfl⟩
  case round =>
    clear h0 h1
    obtain ⟨i, y, hk, rfl, rfl, h0, h1, hT, rfl⟩ := hrel
    have i0 : (0 : Int) ≤ (i : Int) := by omega
    have hq : y.tdiv 2 = y / 2 := Int.tdiv_eq_ediv_of_nonneg h0
    have hr : y.tmod 2 = y % 2 := Int.tmod_eq_emod_of_nonneg h0
    by_cases hlt : (i : Int) < (n : Int)
    · obtain ⟨j, rfl⟩ : ∃ j, gk = j + 1 := ⟨gk - 1, by omega⟩
      go_wp2
      go_roundg j
      case measure => omega
      case rel => exact ⟨i + 1, _, by omega, rfl, rfl, by omega, by omega, Lib.hid hT.out, rfl⟩
    · have hg : gk = 0 := by omega
      subst hg
      have hT2 : y = shiftI n x := hT.out
      subst hT2
      go_wp2
      go_ret
      exact ⟨rfl, rfl⟩
theorem shiftI_eq : ∀ (n : Nat) (x : Int), shiftI n x = x / ((2 ^ n : Nat) : Int)
  | 0, x => by simp [shiftI]
  | n + 1, x => by
    rw [shiftI, shiftI_eq n, Int.ediv_ediv_of_nonneg (by omega)]
    congr 1
    push_cast
    rw [Int.pow_succ, Int.mul_comm]
theorem turnN_step (n m : Nat) (h : n + m = 31) (x : Nat) : (x / 2 + x % 2 * 2147483648) / 2 ^ n + (x / 2 + x % 2 * 2147483648) % 2 ^ n * 2 ^ (m + 1) = x / 2 ^ (n + 1) + x % 2 ^ (n + 1) * 2 ^ m := by
  have e31 : (2147483648 : Nat) = 2 ^ n * 2 ^ m := by rw [← Nat.pow_add, h]
  have hp : 0 < 2 ^ n := Nat.two_pow_pos n
  have h1 : (x / 2 + x % 2 * 2147483648) / 2 ^ n = x / 2 / 2 ^ n + x % 2 * 2 ^ m := by
    rw [e31, show x % 2 * (2 ^ n * 2 ^ m) = 2 ^ n * (x % 2 * 2 ^ m) by rw [Nat.mul_left_comm], Nat.add_mul_div_left _ _ hp]
  have h2 : (x / 2 + x % 2 * 2147483648) % 2 ^ n = x / 2 % 2 ^ n := by
    rw [e31, show x % 2 * (2 ^ n * 2 ^ m) = 2 ^ n * (x % 2 * 2 ^ m) by rw [Nat.mul_left_comm], Nat.add_mul_mod_self_left]
  have h3 : x % 2 ^ (n + 1) = x % 2 + 2 * (x / 2 % 2 ^ n) := by
    rw [Nat.pow_succ, Nat.mul_comm (2 ^ n) 2, Nat.mod_mul]
  rw [h1, h2, h3, Nat.div_div_eq_div_mul, show 2 * 2 ^ n = 2 ^ (n + 1) by rw [Nat.pow_succ, Nat.mul_comm], Nat.add_mul, Nat.pow_succ 2 m]
  rw [show x / 2 % 2 ^ n * (2 ^ m * 2) = 2 * (x / 2 % 2 ^ n) * 2 ^ m by rw [Nat.mul_comm (2 ^ m) 2, ← Nat.mul_assoc, Nat.mul_comm _ 2]]
  omega
end Go.Proofs.YtmppagiaonbggaaDoor

/- The reference's words are the program's: turned, shifted, chosen. -/
namespace Go.Proofs.YtmppagiaonbggaaDoor
set_option linter.unusedVariables false
set_option linter.unusedSimpArgs false
set_option maxRecDepth 100000
open Go.RowKit

theorem turnI_nat : ∀ (n x : Nat), n ≤ 31 → turnI n (x : Int) = ((x / 2 ^ n + x % 2 ^ n * 2 ^ (32 - n) : Nat) : Int)
  | 0, x, _ => by simp [turnI, Nat.mod_one]
  | n + 1, x, h => by
    have e : ((x : Int) / 2 + (x : Int) % 2 * 2147483648) = ((x / 2 + x % 2 * 2147483648 : Nat) : Int) := by omega
    rw [turnI, e, turnI_nat n _ (by omega)]
    have h1 := turnN_step n (31 - n) (by omega) x
    rw [show 32 - n = 31 - n + 1 by omega, h1, show 32 - (n + 1) = 31 - n by omega]
theorem wraps_u32' (n : Int) (h0 : 0 ≤ n) (h1 : n < 2 ^ 32) : IntKind.u32.wrap n = n := by rw [IntKind.wrap_u32]; omega
theorem join32 (i : Nat) (x y : Int) (hx0 : 0 ≤ x) (hx : x % 2 ^ i = 0) (hx1 : x < 4294967296) (hy0 : 0 ≤ y) (hy : y < 2 ^ i) (hy1 : y < 4294967296) : bits .or .u32 x y = x + y :=
  bits_join .u32 32 (by decide) wraps_u32' i x y hx0 hx (by omega) hy0 hy (by omega)
theorem turn7_ref (x : Int) (h0 : 0 ≤ x) (h1 : x < 4294967296) : turnI 7 x = turn7 x := by
  obtain ⟨a, rfl⟩ := Int.eq_ofNat_of_zero_le h0
  rw [turnI_nat 7 a (by omega)]
  unfold turn7
  rw [join32 25 _ _ (by omega) (by omega) (by omega) (by omega) (by omega) (by omega)]
  simp only [Nat.reducePow, Nat.reduceSub]
  omega
theorem rturn7_any (x : Int) (h0 : 0 ≤ x) (h1 : x < 4294967296) (w : World) : Calls Tryd.prog 68 #[.int .i64 x, .int .i64 7] w fun e w' => e = .returned (.int .i64 (turn7 x)) ∧ w' = w := by
  rw [← turn7_ref x h0 h1]
  exact rturn_any x h0 h1 7 (by omega) w
theorem turn18_ref (x : Int) (h0 : 0 ≤ x) (h1 : x < 4294967296) : turnI 18 x = turn18 x := by
  obtain ⟨a, rfl⟩ := Int.eq_ofNat_of_zero_le h0
  rw [turnI_nat 18 a (by omega)]
  unfold turn18
  rw [join32 14 _ _ (by omega) (by omega) (by omega) (by omega) (by omega) (by omega)]
  simp only [Nat.reducePow, Nat.reduceSub]
  omega
theorem rturn18_any (x : Int) (h0 : 0 ≤ x) (h1 : x < 4294967296) (w : World) : Calls Tryd.prog 68 #[.int .i64 x, .int .i64 18] w fun e w' => e = .returned (.int .i64 (turn18 x)) ∧ w' = w := by
  rw [← turn18_ref x h0 h1]
  exact rturn_any x h0 h1 18 (by omega) w
theorem turn17_ref (x : Int) (h0 : 0 ≤ x) (h1 : x < 4294967296) : turnI 17 x = turn17 x := by
  obtain ⟨a, rfl⟩ := Int.eq_ofNat_of_zero_le h0
  rw [turnI_nat 17 a (by omega)]
  unfold turn17
  rw [join32 15 _ _ (by omega) (by omega) (by omega) (by omega) (by omega) (by omega)]
  simp only [Nat.reducePow, Nat.reduceSub]
  omega
theorem rturn17_any (x : Int) (h0 : 0 ≤ x) (h1 : x < 4294967296) (w : World) : Calls Tryd.prog 68 #[.int .i64 x, .int .i64 17] w fun e w' => e = .returned (.int .i64 (turn17 x)) ∧ w' = w := by
  rw [← turn17_ref x h0 h1]
  exact rturn_any x h0 h1 17 (by omega) w
theorem turn19_ref (x : Int) (h0 : 0 ≤ x) (h1 : x < 4294967296) : turnI 19 x = turn19 x := by
  obtain ⟨a, rfl⟩ := Int.eq_ofNat_of_zero_le h0
  rw [turnI_nat 19 a (by omega)]
  unfold turn19
  rw [join32 13 _ _ (by omega) (by omega) (by omega) (by omega) (by omega) (by omega)]
  simp only [Nat.reducePow, Nat.reduceSub]
  omega
theorem rturn19_any (x : Int) (h0 : 0 ≤ x) (h1 : x < 4294967296) (w : World) : Calls Tryd.prog 68 #[.int .i64 x, .int .i64 19] w fun e w' => e = .returned (.int .i64 (turn19 x)) ∧ w' = w := by
  rw [← turn19_ref x h0 h1]
  exact rturn_any x h0 h1 19 (by omega) w
theorem turn6_ref (x : Int) (h0 : 0 ≤ x) (h1 : x < 4294967296) : turnI 6 x = turn6 x := by
  obtain ⟨a, rfl⟩ := Int.eq_ofNat_of_zero_le h0
  rw [turnI_nat 6 a (by omega)]
  unfold turn6
  rw [join32 26 _ _ (by omega) (by omega) (by omega) (by omega) (by omega) (by omega)]
  simp only [Nat.reducePow, Nat.reduceSub]
  omega
theorem rturn6_any (x : Int) (h0 : 0 ≤ x) (h1 : x < 4294967296) (w : World) : Calls Tryd.prog 68 #[.int .i64 x, .int .i64 6] w fun e w' => e = .returned (.int .i64 (turn6 x)) ∧ w' = w := by
  rw [← turn6_ref x h0 h1]
  exact rturn_any x h0 h1 6 (by omega) w
theorem turn11_ref (x : Int) (h0 : 0 ≤ x) (h1 : x < 4294967296) : turnI 11 x = turn11 x := by
  obtain ⟨a, rfl⟩ := Int.eq_ofNat_of_zero_le h0
  rw [turnI_nat 11 a (by omega)]
  unfold turn11
  rw [join32 21 _ _ (by omega) (by omega) (by omega) (by omega) (by omega) (by omega)]
  simp only [Nat.reducePow, Nat.reduceSub]
  omega
theorem rturn11_any (x : Int) (h0 : 0 ≤ x) (h1 : x < 4294967296) (w : World) : Calls Tryd.prog 68 #[.int .i64 x, .int .i64 11] w fun e w' => e = .returned (.int .i64 (turn11 x)) ∧ w' = w := by
  rw [← turn11_ref x h0 h1]
  exact rturn_any x h0 h1 11 (by omega) w
theorem turn25_ref (x : Int) (h0 : 0 ≤ x) (h1 : x < 4294967296) : turnI 25 x = turn25 x := by
  obtain ⟨a, rfl⟩ := Int.eq_ofNat_of_zero_le h0
  rw [turnI_nat 25 a (by omega)]
  unfold turn25
  rw [join32 7 _ _ (by omega) (by omega) (by omega) (by omega) (by omega) (by omega)]
  simp only [Nat.reducePow, Nat.reduceSub]
  omega
theorem rturn25_any (x : Int) (h0 : 0 ≤ x) (h1 : x < 4294967296) (w : World) : Calls Tryd.prog 68 #[.int .i64 x, .int .i64 25] w fun e w' => e = .returned (.int .i64 (turn25 x)) ∧ w' = w := by
  rw [← turn25_ref x h0 h1]
  exact rturn_any x h0 h1 25 (by omega) w
theorem turn2_ref (x : Int) (h0 : 0 ≤ x) (h1 : x < 4294967296) : turnI 2 x = turn2 x := by
  obtain ⟨a, rfl⟩ := Int.eq_ofNat_of_zero_le h0
  rw [turnI_nat 2 a (by omega)]
  unfold turn2
  rw [join32 30 _ _ (by omega) (by omega) (by omega) (by omega) (by omega) (by omega)]
  simp only [Nat.reducePow, Nat.reduceSub]
  omega
theorem rturn2_any (x : Int) (h0 : 0 ≤ x) (h1 : x < 4294967296) (w : World) : Calls Tryd.prog 68 #[.int .i64 x, .int .i64 2] w fun e w' => e = .returned (.int .i64 (turn2 x)) ∧ w' = w := by
  rw [← turn2_ref x h0 h1]
  exact rturn_any x h0 h1 2 (by omega) w
theorem turn13_ref (x : Int) (h0 : 0 ≤ x) (h1 : x < 4294967296) : turnI 13 x = turn13 x := by
  obtain ⟨a, rfl⟩ := Int.eq_ofNat_of_zero_le h0
  rw [turnI_nat 13 a (by omega)]
  unfold turn13
  rw [join32 19 _ _ (by omega) (by omega) (by omega) (by omega) (by omega) (by omega)]
  simp only [Nat.reducePow, Nat.reduceSub]
  omega
theorem rturn13_any (x : Int) (h0 : 0 ≤ x) (h1 : x < 4294967296) (w : World) : Calls Tryd.prog 68 #[.int .i64 x, .int .i64 13] w fun e w' => e = .returned (.int .i64 (turn13 x)) ∧ w' = w := by
  rw [← turn13_ref x h0 h1]
  exact rturn_any x h0 h1 13 (by omega) w
theorem turn22_ref (x : Int) (h0 : 0 ≤ x) (h1 : x < 4294967296) : turnI 22 x = turn22 x := by
  obtain ⟨a, rfl⟩ := Int.eq_ofNat_of_zero_le h0
  rw [turnI_nat 22 a (by omega)]
  unfold turn22
  rw [join32 10 _ _ (by omega) (by omega) (by omega) (by omega) (by omega) (by omega)]
  simp only [Nat.reducePow, Nat.reduceSub]
  omega
theorem rturn22_any (x : Int) (h0 : 0 ≤ x) (h1 : x < 4294967296) (w : World) : Calls Tryd.prog 68 #[.int .i64 x, .int .i64 22] w fun e w' => e = .returned (.int .i64 (turn22 x)) ∧ w' = w := by
  rw [← turn22_ref x h0 h1]
  exact rturn_any x h0 h1 22 (by omega) w
theorem rshift3_any (x : Int) (h0 : 0 ≤ x) (h1 : x < 4294967296) (w : World) : Calls Tryd.prog 69 #[.int .i64 x, .int .i64 3] w fun e w' => e = .returned (.int .i64 (x / 8)) ∧ w' = w := by
  have h := rshift_any x h0 h1 3 (by omega) w
  rw [shiftI_eq] at h
  exact h
theorem rshift10_any (x : Int) (h0 : 0 ≤ x) (h1 : x < 4294967296) (w : World) : Calls Tryd.prog 69 #[.int .i64 x, .int .i64 10] w fun e w' => e = .returned (.int .i64 (x / 1024)) ∧ w' = w := by
  have h := rshift_any x h0 h1 10 (by omega) w
  rw [shiftI_eq] at h
  exact h
def W32 (x : Int) : Prop := 0 ≤ x ∧ x < 4294967296
theorem turn7_in (x : Int) : W32 (turn7 x) := by
  have h0 := bits_lo_u32 .or (x * 33554432 % 4294967296) (x / 128)
  have h1 := bits_hi_u32 .or (x * 33554432 % 4294967296) (x / 128)
  exact ⟨h0, by unfold turn7; omega⟩
theorem turn18_in (x : Int) : W32 (turn18 x) := by
  have h0 := bits_lo_u32 .or (x * 16384 % 4294967296) (x / 262144)
  have h1 := bits_hi_u32 .or (x * 16384 % 4294967296) (x / 262144)
  exact ⟨h0, by unfold turn18; omega⟩
theorem turn17_in (x : Int) : W32 (turn17 x) := by
  have h0 := bits_lo_u32 .or (x * 32768 % 4294967296) (x / 131072)
  have h1 := bits_hi_u32 .or (x * 32768 % 4294967296) (x / 131072)
  exact ⟨h0, by unfold turn17; omega⟩
theorem turn19_in (x : Int) : W32 (turn19 x) := by
  have h0 := bits_lo_u32 .or (x * 8192 % 4294967296) (x / 524288)
  have h1 := bits_hi_u32 .or (x * 8192 % 4294967296) (x / 524288)
  exact ⟨h0, by unfold turn19; omega⟩
theorem turn6_in (x : Int) : W32 (turn6 x) := by
  have h0 := bits_lo_u32 .or (x * 67108864 % 4294967296) (x / 64)
  have h1 := bits_hi_u32 .or (x * 67108864 % 4294967296) (x / 64)
  exact ⟨h0, by unfold turn6; omega⟩
theorem turn11_in (x : Int) : W32 (turn11 x) := by
  have h0 := bits_lo_u32 .or (x * 2097152 % 4294967296) (x / 2048)
  have h1 := bits_hi_u32 .or (x * 2097152 % 4294967296) (x / 2048)
  exact ⟨h0, by unfold turn11; omega⟩
theorem turn25_in (x : Int) : W32 (turn25 x) := by
  have h0 := bits_lo_u32 .or (x * 128 % 4294967296) (x / 33554432)
  have h1 := bits_hi_u32 .or (x * 128 % 4294967296) (x / 33554432)
  exact ⟨h0, by unfold turn25; omega⟩
theorem turn2_in (x : Int) : W32 (turn2 x) := by
  have h0 := bits_lo_u32 .or (x * 1073741824 % 4294967296) (x / 4)
  have h1 := bits_hi_u32 .or (x * 1073741824 % 4294967296) (x / 4)
  exact ⟨h0, by unfold turn2; omega⟩
theorem turn13_in (x : Int) : W32 (turn13 x) := by
  have h0 := bits_lo_u32 .or (x * 524288 % 4294967296) (x / 8192)
  have h1 := bits_hi_u32 .or (x * 524288 % 4294967296) (x / 8192)
  exact ⟨h0, by unfold turn13; omega⟩
theorem turn22_in (x : Int) : W32 (turn22 x) := by
  have h0 := bits_lo_u32 .or (x * 1024 % 4294967296) (x / 4194304)
  have h1 := bits_hi_u32 .or (x * 1024 % 4294967296) (x / 4194304)
  exact ⟨h0, by unfold turn22; omega⟩
theorem bits_in (op : BinOp) (a b : Int) : W32 (bits op .u32 a b) := ⟨bits_lo_u32 op a b, by have := bits_hi_u32 op a b; omega⟩
theorem ofInt_toNat (v : BitVec 32) : BitVec.ofInt 32 ((v.toNat : Nat) : Int) = v := by rw [BitVec.ofInt_natCast, BitVec.ofNat_toNat, BitVec.setWidth_eq]
theorem bits_bv (op : BinOp) (v : BitVec 32) : IntKind.u32.wrap ((v.toNat : Nat) : Int) = ((v.toNat : Nat) : Int) := by
  rw [IntKind.wrap_u32]
  have := v.isLt
  omega
theorem bxor (a b : Int) : bits .xor .u32 a b = (((BitVec.ofInt 32 a ^^^ BitVec.ofInt 32 b).toNat : Nat) : Int) := bits_bv .xor _
theorem bor (a b : Int) : bits .or .u32 a b = (((BitVec.ofInt 32 a ||| BitVec.ofInt 32 b).toNat : Nat) : Int) := bits_bv .or _
theorem band (a b : Int) : bits .and .u32 a b = (((BitVec.ofInt 32 a &&& BitVec.ofInt 32 b).toNat : Nat) : Int) := bits_bv .and _
theorem not32 (e : Int) (h0 : 0 ≤ e) (h1 : e < 4294967296) : bits .xor .u32 IntKind.u32.max e = 4294967295 - e := by
  obtain ⟨a, rfl⟩ := Int.eq_ofNat_of_zero_le h0
  rw [bxor, show BitVec.ofInt 32 IntKind.u32.max = BitVec.allOnes 32 by decide, BitVec.allOnes_xor, BitVec.toNat_not, BitVec.ofInt_natCast, BitVec.toNat_ofNat, Nat.mod_eq_of_lt (by omega)]
  omega
theorem ch32 (e f g : Int) (h0 : 0 ≤ e) (h1 : e < 4294967296) : bits .xor .u32 (bits .and .u32 e f) (bits .and .u32 (4294967295 - e) g) = bits .or .u32 (bits .and .u32 e f) (bits .and .u32 (bits .xor .u32 IntKind.u32.max e) g) := by
  rw [← not32 e h0 h1, bxor (bits .and .u32 e f), bor, band e f, band _ g, bxor IntKind.u32.max, ofInt_toNat, ofInt_toNat, ofInt_toNat, show BitVec.ofInt 32 IntKind.u32.max = BitVec.allOnes 32 by decide, BitVec.allOnes_xor]
  congr 2
  apply BitVec.eq_of_getLsbD_eq
  intro i hi
  simp only [BitVec.getLsbD_xor, BitVec.getLsbD_or, BitVec.getLsbD_and, BitVec.getLsbD_not, hi, decide_true, Bool.true_and]
  cases (BitVec.ofInt 32 e).getLsbD i <;> cases (BitVec.ofInt 32 f).getLsbD i <;> cases (BitVec.ofInt 32 g).getLsbD i <;> rfl
end Go.Proofs.YtmppagiaonbggaaDoor

/- Numbers as digits of 16 bits: their values; roots, plain. -/
namespace Go.Proofs.YtmppagiaonbggaaDoor
set_option linter.unusedVariables false
set_option linter.unusedSimpArgs false
set_option maxRecDepth 100000
open Go.RowKit

/-- The value of digits, the lowest first. -/
def valD : List Int → Int
  | [] => 0
  | d :: l => d + 65536 * valD l
def Dig (l : List Int) : Prop := ∀ d ∈ l, 0 ≤ d ∧ d ≤ 65535
theorem valD_add : ∀ (l : List Int) (i : Nat) (c : Int), i < l.length → valD (l.set i (l.getD i 0 + c)) = valD l + c * 65536 ^ i
  | [], i, c, h => by simp at h
  | d :: l, 0, c, _ => by simp [valD]; omega
  | d :: l, i + 1, c, h => by
    have ih := valD_add l i c (by simpa using h)
    simp only [List.getD_eq_getElem?_getD] at ih
    simp only [List.set_cons_succ, valD, List.getD_eq_getElem?_getD, List.getElem?_cons_succ, ih]
    rw [Int.pow_succ, Int.mul_add, ← Int.add_assoc, Int.mul_comm (65536 ^ i) 65536, Int.mul_left_comm]
theorem valD_snoc : ∀ (l : List Int) (d : Int), valD (l ++ [d]) = valD l + d * 65536 ^ l.length
  | [], d => by simp [valD]
  | e :: l, d => by
    rw [List.cons_append, valD, valD_snoc l d, valD, List.length_cons, Int.pow_succ, Int.mul_add, ← Int.add_assoc, Int.mul_comm (65536 ^ l.length) 65536, Int.mul_left_comm]
theorem valD_zero (n : Nat) : valD (List.replicate n 0) = 0 := by
  induction n with
  | zero => rfl
  | succ n ih => rw [List.replicate_succ, valD, ih]; rfl
theorem pow_pos16 (n : Nat) : (0 : Int) < 65536 ^ n := Int.pow_pos (by omega)
theorem valD_nonneg : ∀ (l : List Int), (∀ d ∈ l, 0 ≤ d) → 0 ≤ valD l
  | [], _ => by simp [valD]
  | d :: l, h => by
    have h1 := h d (by simp)
    have h2 := valD_nonneg l fun x hx => h x (by simp [hx])
    rw [valD]
    omega
theorem valD_lt : ∀ (l : List Int), Dig l → valD l < 65536 ^ l.length
  | [], _ => by simp [valD]
  | d :: l, h => by
    have h1 := h d (by simp)
    have h2 := valD_lt l fun x hx => h x (by simp [hx])
    rw [valD, List.length_cons, Int.pow_succ]
    omega
/-- The top digit of digits whose value is below a power. -/
theorem top_dig (l : List Int) (n : Nat) (hn : l.length = n + 1) (h0 : ∀ d ∈ l, 0 ≤ d) (hv : valD l < 65536 ^ (n + 1)) : l.getD n 0 ≤ 65535 := by
  have e : l = l.take n ++ [l.getD n 0] := by
    rw [List.getD_eq_getElem?_getD, List.getElem?_eq_getElem (by omega), Option.getD_some]
    conv => lhs; rw [← List.take_append_drop n l]
    rw [List.drop_eq_getElem_cons (by omega), List.drop_of_length_le (by omega)]
  have h1 := valD_nonneg (l.take n) fun d hd => h0 d (List.mem_of_mem_take hd)
  have h2 : valD l = valD (l.take n) + l.getD n 0 * 65536 ^ n := by
    conv => lhs; rw [e]
    rw [valD_snoc, List.length_take, Nat.min_eq_left (by omega)]
  rw [h2, Int.pow_succ, Int.mul_comm (65536 ^ n)] at hv
  have hp := pow_pos16 n
  have : l.getD n 0 * 65536 ^ n < 65536 * 65536 ^ n := by omega
  have := Int.lt_of_mul_lt_mul_right this (Int.le_of_lt hp)
  omega
theorem valD_take (l : List Int) (i : Nat) (h : i < l.length) : valD (l.take (i + 1)) = valD (l.take i) + l.getD i 0 * 65536 ^ i := by
  rw [List.take_succ_eq_append_getElem h, valD_snoc, List.length_take, Nat.min_eq_left (by omega), List.getD_eq_getElem?_getD, List.getElem?_eq_getElem h, Option.getD_some]

/-! comparing -/
def valN (f : Nat → Int) : Nat → Int
  | 0 => 0
  | n + 1 => valN f n + f n * 65536 ^ n
theorem valN_list (l : List Int) : ∀ n, n ≤ l.length → valN (fun i => l.getD i 0) n = valD (l.take n)
  | 0, _ => by simp [valN, valD]
  | n + 1, h => by rw [valN, valN_list l n (by omega), valD_take l n (by omega)]
theorem valN_more (l : List Int) (n : Nat) (h : l.length ≤ n) : valN (fun i => l.getD i 0) n = valD l := by
  induction n with
  | zero =>
    have : l = [] := List.eq_nil_of_length_eq_zero (by omega)
    subst this
    rfl
  | succ n ih =>
    by_cases e : l.length ≤ n
    · rw [valN, ih e, List.getD_eq_getElem?_getD, List.getElem?_eq_none e]
      simp
    · rw [valN_list l (n + 1) (by omega), List.take_of_length_le (by omega)]
def DigF (f : Nat → Int) : Prop := ∀ i, 0 ≤ f i ∧ f i ≤ 65535
theorem Dig.fn {l : List Int} (h : Dig l) : DigF fun i => l.getD i 0 := fun i => by
  by_cases hi : i < l.length
  · simp only [List.getD_eq_getElem?_getD, List.getElem?_eq_getElem hi, Option.getD_some]
    exact h _ (List.getElem_mem hi)
  · simp [List.getD_eq_getElem?_getD, List.getElem?_eq_none (by omega : l.length ≤ i)]
theorem valN_in {f : Nat → Int} (h : DigF f) : ∀ n, 0 ≤ valN f n ∧ valN f n < 65536 ^ n
  | 0 => by simp [valN]
  | n + 1 => by
    obtain ⟨h0, h1⟩ := valN_in h n
    have hf := h n
    have hp := pow_pos16 n
    have h2 : f n * 65536 ^ n ≤ 65535 * 65536 ^ n := Int.mul_le_mul_of_nonneg_right hf.2 (Int.le_of_lt hp)
    have h3 : 0 ≤ f n * 65536 ^ n := Int.mul_nonneg hf.1 (Int.le_of_lt hp)
    rw [valN, Int.pow_succ, Int.mul_comm (65536 ^ n)]
    constructor <;> omega
theorem valN_gt {f g : Nat → Int} (hf : DigF f) (hg : DigF g) (k : Nat) (hk : g k < f k) : ∀ n, k < n → (∀ m, k < m → m < n → f m = g m) → valN g n < valN f n
  | 0, h, _ => by omega
  | n + 1, h, he => by
    by_cases e : k = n
    · subst e
      have h1 := (valN_in hg k).2
      have h2 := (valN_in hf k).1
      have hp := pow_pos16 k
      have h3 : (g k + 1) * 65536 ^ k ≤ f k * 65536 ^ k := Int.mul_le_mul_of_nonneg_right (by omega) (Int.le_of_lt hp)
      rw [Int.add_mul] at h3
      rw [valN, valN]
      omega
    · have h1 := valN_gt hf hg k hk n (by omega) fun m hm hn => he m hm (by omega)
      have h2 := he n (by omega) (by omega)
      rw [valN, valN, h2]
      omega
theorem valN_eq {f g : Nat → Int} : ∀ n, (∀ m, m < n → f m = g m) → valN f n = valN g n
  | 0, _ => rfl
  | n + 1, h => by rw [valN, valN, valN_eq n fun m hm => h m (by omega), h n (by omega)]

/-! the roots -/
def rootS (P pw : Nat) : Nat → Nat → Nat
  | 0, r => r
  | b + 1, r => rootS P pw b (if (r + 2 ^ b) ^ pw ≤ P then r + 2 ^ b else r)
def rootN (p pw : Nat) : Nat := rootS (p * 2 ^ (32 * pw)) pw 37 0 % 4294967296
/-! the primes -/
def prsN : Nat → List Nat
  | 0 => []
  | p + 1 => if 2 ≤ p ∧ (prsN p).all (fun q => p % q != 0) = true then prsN p ++ [p] else prsN p
theorem prsN_mono (p : Nat) : ∀ k, ∃ l, prsN (p + k) = prsN p ++ l
  | 0 => ⟨[], by simp⟩
  | k + 1 => by
    obtain ⟨l, h⟩ := prsN_mono p k
    rw [← Nat.add_assoc, prsN, h]
    split
    · exact ⟨l ++ [p + k], by simp⟩
    · exact ⟨l, rfl⟩
theorem prsN_pos : ∀ p, ∀ q ∈ prsN p, 2 ≤ q ∧ q < p
  | 0, q, h => by simp [prsN] at h
  | p + 1, q, h => by
    rw [prsN] at h
    split at h
    · rename_i h2
      rcases List.mem_append.1 h with h | h
      · have := prsN_pos p q h; omega
      · simp at h; omega
    · have := prsN_pos p q h; omega
theorem prsN_len (p : Nat) : (prsN p).length ≤ p := by
  induction p with
  | zero => simp [prsN]
  | succ p ih =>
    rw [prsN]
    split
    · rw [List.length_append, List.length_singleton]; omega
    · omega
def p64 : List Nat := [2, 3, 5, 7, 11, 13, 17, 19, 23, 29, 31, 37, 41, 43, 47, 53, 59, 61, 67, 71, 73, 79, 83, 89, 97, 101, 103, 107, 109, 113, 127, 131, 137, 139, 149, 151, 157, 163, 167, 173, 179, 181, 191, 193, 197, 199, 211, 223, 227, 229, 233, 239, 241, 251, 257, 263, 269, 271, 277, 281, 283, 293, 307, 311]
set_option maxRecDepth 1000000 in
theorem prsN_312 : prsN 312 = p64 := by decide +kernel
theorem prsN_20 : prsN 20 = p64.take 8 := by decide +kernel
def startN : List Int := [1779033703, 3144134277, 1013904242, 2773480762, 1359893119, 2600822924, 528734635, 1541459225]
theorem starts_N : ((p64.take 8).map fun p => ((rootN p 2 : Nat) : Int)) = startN := by decide +kernel
def tableN : List Int := [0x428a2f98, 0x71374491, 0xb5c0fbcf, 0xe9b5dba5, 0x3956c25b, 0x59f111f1, 0x923f82a4, 0xab1c5ed5, 0xd807aa98, 0x12835b01, 0x243185be, 0x550c7dc3, 0x72be5d74, 0x80deb1fe, 0x9bdc06a7, 0xc19bf174, 0xe49b69c1, 0xefbe4786, 0x0fc19dc6, 0x240ca1cc, 0x2de92c6f, 0x4a7484aa, 0x5cb0a9dc, 0x76f988da, 0x983e5152, 0xa831c66d, 0xb00327c8, 0xbf597fc7, 0xc6e00bf3, 0xd5a79147, 0x06ca6351, 0x14292967, 0x27b70a85, 0x2e1b2138, 0x4d2c6dfc, 0x53380d13, 0x650a7354, 0x766a0abb, 0x81c2c92e, 0x92722c85, 0xa2bfe8a1, 0xa81a664b, 0xc24b8b70, 0xc76c51a3, 0xd192e819, 0xd6990624, 0xf40e3585, 0x106aa070, 0x19a4c116, 0x1e376c08, 0x2748774c, 0x34b0bcb5, 0x391c0cb3, 0x4ed8aa4a, 0x5b9cca4f, 0x682e6ff3, 0x748f82ee, 0x78a5636f, 0x84c87814, 0x8cc70208, 0x90befffa, 0xa4506ceb, 0xbef9a3f7, 0xc67178f2]
theorem tables_N : (p64.map fun p => ((rootN p 3 : Nat) : Int)) = tableN := by decide +kernel
end Go.Proofs.YtmppagiaonbggaaDoor

/- The walks over times and above of the reference's digest. -/
namespace Go.Proofs.YtmppagiaonbggaaDoor
set_option linter.unusedVariables false
set_option linter.unusedSimpArgs false
set_option maxRecDepth 100000
open Go.RowKit

def iA (l : List Int) : Array Value := (l.map (Value.int .i64)).toArray
theorem iA_getD (l : List Int) (i : Nat) (h : i < l.length) : (iA l)[i]? = some (.int .i64 (l.getD i 0)) := by simp [iA, h, List.getD_eq_getElem?_getD]
theorem iA_set (l : List Int) (i : Nat) (z : Int) : (iA l).setIfInBounds i (.int .i64 z) = iA (l.set i z) := by simp [iA, List.map_set]
def Ri (w : World) (g : Nat) (l : List Int) : Prop := ∀ j, j < l.length → w.cell? ⟨g, j, none⟩ = some (.int .i64 (l.getD j 0))
theorem Ri.below {w w' : World} {g : Nat} {l : List Int} (h : Ri w g l) (hb : Below w.heap.size w w') : Ri w' g l := fun j hj =>
  (World.cell?_of_block (w := w) (w' := w') (a := ⟨g, j, none⟩) (hb.block g (World.block_lt_of_cell? w _ (h j hj)))).trans (h j hj)
theorem Own.ri {B g : Nat} {R : HP} {w : World} {l : List Int} (h : Own B (Bk g 3 (iA l) * R) w) : Ri w g l := fun j hj => (h.cell j).trans (iA_getD l j hj)
theorem info_int' : (Tryd.prog.info? 3).map (fun i => (i.zero, i.size, i.bytes)) = some (some (.int .i64 0), 1, 8) := by kernel_rfl
theorem run_make_int (k : Nat) (hk : k ≤ 131072) (W : World) : (Instr.makeSlice 85 (.int .i64 (k : Int)) (.int .i64 (k : Int))).run Tryd.prog W = .ok (.slice (some ⟨W.heap.size, 0, none⟩) k k) (W.alloc (.cells (iA (List.replicate k 0)) 3)) := by
  obtain ⟨i0, hi, hz0, hz1, hz2⟩ := info_parts info_int'
  have h := run_make (P := Tryd.prog) W 85 3 i0 _ Tryd.underlying85 hi hz0 .i64 .i64 k k (by omega) (Int.le_refl _) (by rw [hz2]; omega) (by omega)
  rw [hz1] at h
  have hc : madeCells (Value.int .i64 0).cells (k * 1) = iA (List.replicate k 0) := by
    apply Array.ext'
    show (madeCells #[.int .i64 0] (k * 1)).toList = _
    rw [Nat.mul_one, toList_madeCells_one]
    simp [iA]
  simp only [Int.toNat_natCast, hc] at h
  exact h
/-- A block that the call made itself. -/
theorem Own.fresh_bk {B X : Nat} {R : HP} [Loc B R] {w w' : World} {t : TypeId} {cs : Array Value} (hB : B ≤ w.heap.size) (h : Own B R w) (hX : w.heap.size ≤ X) (hc : w'.heap[X]? = some (.cells cs t (0, 0))) (hb : Below w.heap.size w w') : Own B (Bk X t cs * R) w' := by
  refine Own.turn hB h.emp hb.size fun F _ _ => ⟨fun k => k = X, fun k hk => .inr ?_, ⟨rfl, hc⟩, fun k hk _ => hb.block k hk⟩
  subst hk
  exact ⟨hX, (Array.getElem?_eq_some_iff.1 hc).1⟩
/-- Digits while they are multiplied: those from m on are small. -/
def Mul (l : List Int) (m : Nat) : Prop := ∀ i, 0 ≤ l.getD i 0 ∧ l.getD i 0 ≤ 4294901760 ∧ (m ≤ i → l.getD i 0 ≤ 65535)
/-- Digits while they are carried: those below k are small, the one at k is a little greater. -/
def Car (l : List Int) (k : Nat) : Prop := ∀ i, 0 ≤ l.getD i 0 ∧ l.getD i 0 ≤ 4295000000 ∧ (k < i → l.getD i 0 ≤ 4294901760) ∧ (i < k → l.getD i 0 ≤ 65535)
theorem getD_set (l : List Int) (i j : Nat) (z : Int) (hi : i < l.length) : (l.set i z).getD j 0 = if i = j then z else l.getD j 0 := by
  simp only [List.getD_eq_getElem?_getD, List.getElem?_set]
  split
  · rename_i h; subst h; simp [hi]
  · rfl
theorem Dig.mul {l : List Int} (h : Dig l) (m : Nat) : Mul l m := fun i => by
  have := h.fn i
  simp only at this
  exact ⟨this.1, by omega, fun _ => this.2⟩
theorem Mul.step {l : List Int} {m : Nat} (h : Mul l m) (hm : m < l.length) (p : Int) (p0 : 0 ≤ p) (p1 : p ≤ 4294836225) : Mul (l.set m (l.getD m 0 + p)) (m + 1) := fun i => by
  rw [getD_set l m i _ hm]
  have h1 := h i
  have h2 := h m
  have h3 := h2.2.2 (Nat.le_refl m)
  split
  · exact ⟨by omega, by omega, fun h => by omega⟩
  · exact ⟨h1.1, h1.2.1, fun h => h1.2.2 (by omega)⟩
theorem Mul.car {l : List Int} {m : Nat} (h : Mul l m) : Car l 0 := fun i => ⟨(h i).1, by have := (h i).2.1; omega, fun _ => (h i).2.1, fun h => by omega⟩
theorem Car.step {l : List Int} {k : Nat} (h : Car l k) (hk : k + 1 < l.length) : Car ((l.set (k + 1) (l.getD (k + 1) 0 + l.getD k 0 / 65536)).set k (l.getD k 0 % 65536)) (k + 1) := fun i => by
  rw [getD_set _ k i _ (by rw [List.length_set]; omega), getD_set l (k + 1) i _ hk]
  have h1 := h i
  have h2 := h k
  have h3 := h (k + 1)
  have h4 := h3.2.2.1 (by omega)
  split
  · subst_vars
    exact ⟨by omega, by omega, fun _ => by omega, fun _ => by omega⟩
  · split
    · subst_vars
      exact ⟨by omega, by omega, fun h => by omega, fun h => by omega⟩
    · exact ⟨h1.1, h1.2.1, fun h => h1.2.2.1 (by omega), fun h => h1.2.2.2 (by omega)⟩
theorem Car.val {l : List Int} {k : Nat} (hk : k + 1 < l.length) : valD ((l.set (k + 1) (l.getD (k + 1) 0 + l.getD k 0 / 65536)).set k (l.getD k 0 % 65536)) = valD l := by
  have e : l.getD k 0 % 65536 = (l.set (k + 1) (l.getD (k + 1) 0 + l.getD k 0 / 65536)).getD k 0 + -(65536 * (l.getD k 0 / 65536)) := by
    rw [getD_set l (k + 1) k _ hk, if_neg (by omega)]
    omega
  rw [e, valD_add _ k _ (by rw [List.length_set]; omega), valD_add l (k + 1) _ hk, Int.pow_succ]
  have : -(65536 * (l.getD k 0 / 65536)) * 65536 ^ k = -(l.getD k 0 / 65536 * (65536 ^ k * 65536)) := by
    rw [Int.neg_mul, Int.mul_comm 65536, Int.mul_assoc, Int.mul_comm 65536]
  rw [this]
  omega
theorem Car.done {l : List Int} {n : Nat} (h : Car l n) (hn : l.length = n + 1) (hv : valD l < 65536 ^ (n + 1)) : Dig l := fun d hd => by
  obtain ⟨i, hi, rfl⟩ := List.getElem_of_mem hd
  have e : l[i] = l.getD i 0 := by simp [List.getD_eq_getElem?_getD, hi]
  rw [e]
  refine ⟨(h i).1, ?_⟩
  by_cases hin : i < n
  · exact (h i).2.2.2 hin
  · obtain rfl : i = n := by omega
    refine top_dig l i hn (fun d hd => ?_) hv
    obtain ⟨q, hq, rfl⟩ := List.getElem_of_mem hd
    have e : l[q] = l.getD q 0 := by simp [List.getD_eq_getElem?_getD, hq]
    rw [e]
    exact (h q).1
theorem val_bound (a b : List Int) (ha : Dig a) (hb : Dig b) (i n : Nat) (hn : a.length + b.length = n) : valD (a.take i) * valD b < 65536 ^ n := by
  have h1 := valD_lt (a.take i) fun d hd => ha d (List.mem_of_mem_take hd)
  have h2 := valD_lt b hb
  have h3 := valD_nonneg (a.take i) fun d hd => (ha d (List.mem_of_mem_take hd)).1
  have h4 := valD_nonneg b fun d hd => (hb d hd).1
  obtain ⟨k, hk⟩ : ∃ k, a.length = (a.take i).length + k := ⟨a.length - (a.take i).length, by rw [List.length_take]; omega⟩
  have hp := pow_pos16 (a.take i).length
  have hq := pow_pos16 b.length
  have h5 : (65536 : Int) ^ (a.take i).length * 1 ≤ 65536 ^ (a.take i).length * 65536 ^ k := Int.mul_le_mul_of_nonneg_left (by have := pow_pos16 k; omega) (Int.le_of_lt hp)
  rw [← hn, Int.pow_add, hk, Int.pow_add]
  have h6 : valD (a.take i) * valD b ≤ valD (a.take i) * 65536 ^ b.length := Int.mul_le_mul_of_nonneg_left (Int.le_of_lt h2) h3
  have h7 : valD (a.take i) * 65536 ^ b.length < (65536 ^ (a.take i).length * 65536 ^ k) * 65536 ^ b.length := Int.mul_lt_mul_of_pos_right (by omega) hq
  omega
end Go.Proofs.YtmppagiaonbggaaDoor

/- The walk over times of the reference's digest. -/
namespace Go.Proofs.YtmppagiaonbggaaDoor
set_option linter.unusedVariables false
set_option linter.unusedSimpArgs false
set_option maxRecDepth 100000
open Go.RowKit

set_option maxHeartbeats 1600000 in
theorem times_any (ga ca gb cb : Nat) (a b : List Int) (ha : Dig a) (hb : Dig b) (la : 1 ≤ a.length ∧ a.length ≤ 8) (lb : 1 ≤ b.length ∧ b.length ≤ 8) (w : World) (ra : Ri w ga a) (rb : Ri w gb b) :
    Calls Tryd.prog 78 #[.slice (some ⟨ga, 0, none⟩) a.length ca, .slice (some ⟨gb, 0, none⟩) b.length cb] w fun e w' => ∃ l : List Int, l.length = a.length + b.length ∧ Dig l ∧ valD l = valD a * valD b ∧
      e = .returned (.slice (some ⟨w.heap.size, 0, none⟩) l.length l.length) ∧ w'.heap[w.heap.size]? = some (.cells (iA l) 3 (0, 0)) ∧ Below w.heap.size w w' := by
  obtain ⟨n, hn⟩ : ∃ n, a.length + b.length = n := ⟨_, rfl⟩
  have e1 : (a.length : Int) + (b.length : Int) = (n : Int) := by omega
  have hmk := run_make_int n (by omega)
  have o0 := (Own.start w.heap.size w).new (Nat.le_refl _) 3 (iA (List.replicate n 0))
  have b0 := (Below.refl w.heap.size w).alloc (Nat.le_refl _) (.cells (iA (List.replicate n 0)) 3)
  have RA := Lib.hid (fun W (h : Below w.heap.size w W) => ra.below h)
  have RB := Lib.hid (fun W (h : Below w.heap.size w W) => rb.below h)
  have HD := Lib.hid (And.intro ha hb)
  have HN := Lib.hid hn
  obtain ⟨a1, a8⟩ : (1 : Int) ≤ (a.length : Int) ∧ (a.length : Int) ≤ 8 := by omega
  obtain ⟨b1, b8⟩ : (1 : Int) ≤ (b.length : Int) ∧ (b.length : Int) ≤ 8 := by omega
  have n1 : (2 : Int) ≤ (n : Int) ∧ (n : Int) ≤ 16 := by omega
  obtain ⟨n2, n16⟩ := n1
  clear ra rb ha hb la lb hn
  go_enter Tryd.func78, Tryd.ntmps78
  go_wp2
  clear hmk e1
  generalize hX0 : w.heap.size = X0 at *
  go_loopg [6] a.length (fun kk v6 wr => ∃ (i : Nat) (out : List Int), kk + i = a.length ∧ v6 = .int .i64 (i : Int) ∧ out.length = n ∧ Hid (Dig out ∧ valD out = valD (a.take i) * valD b) ∧ Own X0 (Bk X0 3 (iA out) * Emp) wr ∧ Below X0 w wr)
  case atStart => exact ⟨0, List.replicate n 0, by omega, rfl, by simp, Lib.hid ⟨fun d hd => by rw [List.eq_of_mem_replicate hd]; omega, by rw [valD_zero]; simp [valD]⟩, o0, b0⟩
  case round =>
    clear o0 b0
    obtain ⟨i, out, hk, rfl, hol, ho, oo, bo⟩ := hrel
    have i0 : (0 : Int) ≤ (i : Int) := by omega
    have Bw : X0 ≤ wr.heap.size := by rw [← hX0]; exact bo.size
    by_cases hlt : (i : Int) < (a.length : Int)
    · obtain ⟨j, rfl⟩ : ∃ j, gk = j + 1 := ⟨gk - 1, by omega⟩
      have hi : i < a.length := by omega
      have Hk := Lib.hid hk
      clear hk
      go_wp2
      go_loopg [7] b.length (fun kk v7 wr => ∃ (q : Nat) (l : List Int), kk + q = b.length ∧ v7 = .int .i64 (q : Int) ∧ l.length = n ∧ Hid (Mul l (i + q) ∧ valD l = valD (a.take i) * valD b + a.getD i 0 * valD (b.take q) * 65536 ^ i) ∧ Own X0 (Bk X0 3 (iA l) * Emp) wr ∧ Below X0 w wr)
      case atStart => exact ⟨0, out, by omega, rfl, hol, Lib.hid ⟨ho.out.1.mul _, by rw [ho.out.2]; simp [valD]⟩, oo, bo⟩
      case round =>
        clear oo bo ho Bw hol
        obtain ⟨q, l, hk, rfl, hll, hv, oo, bo⟩ := hrel
        have q0 : (0 : Int) ≤ (q : Int) := by omega
        have Bw : X0 ≤ wr.heap.size := by rw [← hX0]; exact bo.size
        by_cases hq : (q : Int) < (b.length : Int)
        · obtain ⟨j2, rfl⟩ : ∃ j2, gk = j2 + 1 := ⟨gk - 1, by omega⟩
          have hqb : q < b.length := by omega
          obtain ⟨m, hm⟩ : ∃ m, i + q = m := ⟨_, rfl⟩
          have hmn : m < l.length := by have := HN.out; omega
          have e1 : (i : Int) + (q : Int) = (m : Int) := by omega
          have m0 : (0 : Int) ≤ (m : Int) := by omega
          have m1 : (m : Int) < (n : Int) := by omega
          have da := HD.out.1.fn i
          have db := HD.out.2.fn q
          simp only at da db
          have dm := hv.out.1 m
          have dm2 := dm.2.2 (by omega)
          obtain ⟨p, hp⟩ : ∃ p, a.getD i 0 * b.getD q 0 = p := ⟨_, rfl⟩
          have p0 : 0 ≤ p := by rw [← hp]; exact Int.mul_nonneg da.1 db.1
          have p1 : p ≤ 4294836225 := by
            rw [← hp]
            exact Int.le_trans (Int.mul_le_mul_of_nonneg_left db.2 da.1) (Int.le_trans (Int.mul_le_mul_of_nonneg_right da.2 (by omega)) (by omega))
          have G := Lib.hid (fun W (h : Own X0 (Bk X0 3 (iA l) * Emp) W) (h2 : Below w.heap.size w W) => And.intro ((h.cell m).trans (iA_getD l m hmn)) (And.intro (RA.out W (by rw [← hX0]; exact h2) i hi) (RB.out W (by rw [← hX0]; exact h2) q hqb)))
          rw [hX0] at G
          have HV : Hid (Mul (l.set m (l.getD m 0 + p)) (i + (q + 1)) ∧ valD (l.set m (l.getD m 0 + p)) = valD (a.take i) * valD b + a.getD i 0 * valD (b.take (q + 1)) * 65536 ^ i) := Lib.hid (by
            obtain ⟨h1, h2⟩ := hv.out
            rw [hm] at h1
            refine ⟨by rw [← Nat.add_assoc, hm]; exact h1.step hmn p p0 p1, ?_⟩
            rw [valD_add l m p hmn, h2, valD_take b q hqb, Int.mul_add, Int.add_mul, ← hp, ← hm, Int.pow_add, Int.mul_comm (65536 ^ i) (65536 ^ q), ← Int.mul_assoc, ← Int.mul_assoc, ← Int.add_assoc])
          have Hk2 := Lib.hid (And.intro hk hll)
          clear hv hm hk hll hmn
          generalize a.getD i 0 = ai at *
          generalize b.getD q 0 = bq at *
          generalize hlm : l.getD m 0 = lm at *
          clear hlm
          obtain ⟨da0, da1⟩ := da
          obtain ⟨db0, db1⟩ := db
          obtain ⟨dm0, _, _⟩ := dm
          go_wp2
          refine wp_region_mix (St X0 _ wr) [0, 1, 2, 3, 4, 5, 6, 7, 8, 9, 10, 11, 12, 13, 14, 15, 16, 17, 18, 19, 20] [21] mixed (by kernel_rfl) rfl (St.drew Bw oo) ?_
          simp only [List.filterMap_cons, List.filterMap_nil, List.getElem?_toArray, List.getElem?_cons_succ, List.getElem?_cons_zero]
          repeat (first
            | (refine held_val ?_ rfl (fun w1 hS => ?_) ?_
               rotate_left
               · (obtain ⟨k1, k2, k3⟩ := G.out w1 hS.2.1 (bo.trans hS.2.2)
                  go_simp
                  try go_bits
                  rfl)
               simp only [Act.put, List.setIfInBounds_toArray, List.set_cons_zero, List.set_cons_succ])
            | (refine held_off rfl ?_
               simp only [Act.put, List.setIfInBounds_toArray, List.set_cons_zero, List.set_cons_succ]))
          refine held_nil (fun w9 hS => ?_)
          obtain ⟨B9, o9, b9⟩ := hS
          have hb9 := bo.trans b9
          have ci := (G.out w9 o9 hb9).1
          have zi := o9.unfrozen m
          have Fin := Lib.hid (fun z => (And.intro ((iA_set l m z) ▸ (o9.set B9 m (.int .i64 z))) (hb9.trans (o9.below_set m (.int .i64 z)))))
          clear oo bo o9 b9 hb9 G
          go_wp2
          go_roundg j2
          case measure => omega
          case rel => exact ⟨q + 1, _, by have := Hk2.out.1; omega, rfl, by rw [List.length_set]; exact Hk2.out.2, HV, (Fin.out _).1, (Fin.out _).2⟩
        · obtain rfl : q = b.length := by omega
          have HV0 : Hid (valD l = valD (a.take (i + 1)) * valD b) := Lib.hid (by
            have h2 := hv.out.2
            rw [List.take_length] at h2
            rw [h2, valD_take a i hi, Int.add_mul, Int.mul_assoc (a.getD i 0), Int.mul_assoc (a.getD i 0), Int.mul_comm (valD b)])
          have HV1 : Hid (valD l < 65536 ^ n) := Lib.hid (by rw [HV0.out]; exact val_bound a b HD.out.1 HD.out.2 (i + 1) n HN.out)
          have hC := Lib.hid hv.out.1.car
          clear hv hk
          go_wp2
          go_loopg [8] (n - 1) (fun kk v8 wr => ∃ (k : Nat) (l2 : List Int), kk + k = n - 1 ∧ v8 = .int .i64 (k : Int) ∧ l2.length = n ∧ Hid (Car l2 k ∧ valD l2 = valD l) ∧ Own X0 (Bk X0 3 (iA l2) * Emp) wr ∧ Below X0 w wr)
          case atStart => exact ⟨0, l, by omega, rfl, hll, Lib.hid ⟨hC.out, rfl⟩, oo, bo⟩
          case round =>
            clear oo bo Bw hC
            obtain ⟨k, l2, hk, rfl, hl2, hv, oo, bo⟩ := hrel
            have k0 : (0 : Int) ≤ (k : Int) := by omega
            have Bw : X0 ≤ wr.heap.size := by rw [← hX0]; exact bo.size
            obtain ⟨k1, hk1⟩ : ∃ k1, k + 1 = k1 := ⟨_, rfl⟩
            have e1 : (k : Int) + 1 = (k1 : Int) := by omega
            have hcar := hv.out.1
            by_cases hkn : (k1 : Int) < (n : Int)
            · obtain ⟨j2, rfl⟩ : ∃ j2, gk = j2 + 1 := ⟨gk - 1, by omega⟩
              have hk1n : k1 < l2.length := by omega
              have hkn0 : k < l2.length := by omega
              have hkn2 : (k : Int) < (n : Int) := by omega
              have d1 := hcar k
              have d2 := hcar k1
              have d3 := d2.2.2.1 (by omega)
              have qd : (l2.getD k 0).tdiv 65536 = l2.getD k 0 / 65536 := Int.tdiv_eq_ediv_of_nonneg d1.1
              have qm : (l2.getD k 0).tmod 65536 = l2.getD k 0 % 65536 := Int.tmod_eq_emod_of_nonneg d1.1
              have HV : Hid (Car ((l2.set k1 (l2.getD k1 0 + l2.getD k 0 / 65536)).set k (l2.getD k 0 % 65536)) k1 ∧ valD ((l2.set k1 (l2.getD k1 0 + l2.getD k 0 / 65536)).set k (l2.getD k 0 % 65536)) = valD l) := Lib.hid (by
                subst hk1
                exact ⟨hcar.step hk1n, by rw [Car.val hk1n]; exact hv.out.2⟩)
              have G := Lib.hid (fun W (h : Own X0 (Bk X0 3 (iA l2) * Emp) W) => And.intro ((h.cell k).trans (iA_getD l2 k hkn0)) ((h.cell k1).trans (iA_getD l2 k1 hk1n)))
              have G2 := Lib.hid (fun W z (h : Own X0 (Bk X0 3 (iA (l2.set k1 z)) * Emp) W) => show W.cell? ⟨X0, k, none⟩ = some (.int .i64 (l2.getD k 0)) from (h.cell k).trans ((iA_getD _ k (by rw [List.length_set]; exact hkn0)).trans (by rw [getD_set l2 k1 k z hk1n, if_neg (by omega)])))
              obtain ⟨lk, hlk⟩ : ∃ lk, l2.getD k 0 = lk := ⟨_, rfl⟩
              obtain ⟨lk1, hlk1⟩ : ∃ lk1, l2.getD k1 0 = lk1 := ⟨_, rfl⟩
              rw [hlk] at d1 qd qm HV
              rw [hlk1] at d2 d3 HV
              simp only [hlk, hlk1] at G G2
              obtain ⟨d10, d11, _⟩ := d1
              obtain ⟨d20, _⟩ := d2
              have Hk2 := Lib.hid (And.intro hk (And.intro hl2 hk1))
              clear hlk hlk1 hk hl2 hk1 hv hcar hk1n hkn0
              go_wp2
              refine wp_region_mix (St X0 _ wr) [0, 1, 2, 3, 4, 5, 6, 7, 8, 9, 10, 11, 12, 13, 14] [15] mixed (by kernel_rfl) rfl (St.drew Bw oo) ?_
              simp only [List.filterMap_cons, List.filterMap_nil, List.getElem?_toArray, List.getElem?_cons_succ, List.getElem?_cons_zero]
              repeat (first
                | (refine held_val ?_ rfl (fun w1 hS => ?_) ?_
                   rotate_left
                   · (obtain ⟨c1, c2⟩ := G.out w1 hS.2.1
                      go_simp
                      try go_bits
                      rfl)
                   simp only [Act.put, List.setIfInBounds_toArray, List.set_cons_zero, List.set_cons_succ])
                | (refine held_off rfl ?_
                   simp only [Act.put, List.setIfInBounds_toArray, List.set_cons_zero, List.set_cons_succ]))
              refine held_nil (fun w9 hS => ?_)
              obtain ⟨B9, o9, b9⟩ := hS
              have hb9 := bo.trans b9
              have c1 := (G.out w9 o9).1
              have c2 := (G.out w9 o9).2
              have z1 := o9.unfrozen k1
              have s1 := (iA_set l2 k1 (lk1 + lk / 65536)) ▸ (o9.set B9 k1 (.int .i64 (lk1 + lk / 65536)))
              have t1 := hb9.trans (o9.below_set k1 (.int .i64 (lk1 + lk / 65536)))
              have c3 := G2.out _ _ s1
              have z3 := s1.unfrozen k
              have B10 : X0 ≤ (w9.setCell ⟨X0, k1, none⟩ (.int .i64 (lk1 + lk / 65536))).heap.size := by simpa [World.setCell] using B9
              have s2 := (iA_set _ k (lk % 65536)) ▸ (s1.set B10 k (.int .i64 (lk % 65536)))
              have t2 := t1.trans (s1.below_set k (.int .i64 (lk % 65536)))
              have Fin := Lib.hid (And.intro s2 t2)
              clear oo bo o9 b9 hb9 G G2 s1 s2 t1 t2
              go_wp2
              go_roundg j2
              case measure => omega
              case rel => exact ⟨k1, _, by have := Hk2.out.1; have := Hk2.out.2.2; omega, rfl, by rw [List.length_set, List.length_set]; exact Hk2.out.2.1, HV, Fin.out.1, Fin.out.2⟩
            · have hkn' : k = n - 1 := by omega
              have Hc : Hid (Dig l2 ∧ valD l2 = valD (a.take (i + 1)) * valD b) := Lib.hid ⟨hcar.done (by omega) (by rw [hv.out.2, show k + 1 = n by omega]; exact HV1.out), by rw [hv.out.2]; exact HV0.out⟩
              clear hv hcar
              go_wp2
              go_roundg j
              case measure => omega
              case rel => exact ⟨i + 1, l2, by have := Hk.out; omega, rfl, hl2, Hc, oo, bo⟩
    · obtain rfl : i = a.length := by omega
      have hd := oo.bk.1
      go_wp2
      go_ret
      refine ⟨out, by rw [hol]; exact HN.out.symm, ho.out.1, ?_, by rw [hol]; rfl, hd, bo⟩
      rw [ho.out.2, List.take_length]
end Go.Proofs.YtmppagiaonbggaaDoor

/- The walk over above of the reference's digest. -/
namespace Go.Proofs.YtmppagiaonbggaaDoor
set_option linter.unusedVariables false
set_option linter.unusedSimpArgs false
set_option maxRecDepth 100000
open Go.RowKit

set_option maxHeartbeats 1600000 in
theorem above_any (ga ca gb cb : Nat) (a b : List Int) (ha : Dig a) (hb : Dig b) (lb : 1 ≤ b.length) (lab : b.length ≤ a.length) (la : a.length ≤ 100) (w : World) (ra : Ri w ga a) (rb : Ri w gb b) :
    Calls Tryd.prog 79 #[.slice (some ⟨ga, 0, none⟩) a.length ca, .slice (some ⟨gb, 0, none⟩) b.length cb] w fun e w' => e = .returned (.bool (decide (valD b < valD a))) ∧ w' = w := by
  obtain ⟨n, hn⟩ : ∃ n, a.length = n := ⟨_, rfl⟩
  obtain ⟨m, hm⟩ : ∃ m, b.length = m := ⟨_, rfl⟩
  have hmn : (m : Int) ≤ (n : Int) := by omega
  have hm0 : (1 : Int) ≤ (m : Int) := by omega
  have hn1 : (n : Int) ≤ 100 := by omega
  have hmax : (if (n : Int) < (m : Int) then (m : Int) else (n : Int)) = (n : Int) := by rw [if_neg (by omega)]
  have hmax3 : max (n : Int) (m : Int) = (n : Int) := Int.max_eq_left hmn
  have hmax2 : (if (m : Int) < (n : Int) then (n : Int) else (m : Int)) = (n : Int) := by split <;> omega
  have HD := Lib.hid (And.intro ha hb)
  have HN := Lib.hid (And.intro hn hm)
  have HV : Hid (valD a = valN (fun i => a.getD i 0) n ∧ valD b = valN (fun i => b.getD i 0) n) := Lib.hid ⟨(valN_more a n (by omega)).symm, (valN_more b n (by omega)).symm⟩
  rw [hn, hm]
  clear ha hb lb lab la
  have RA := Lib.hid ra
  have RB := Lib.hid rb
  clear ra rb hn hm
  generalize hres : decide (valD b < valD a) = res at *
  have Hres := Lib.hid hres
  clear hres
  go_enter Tryd.func79, Tryd.ntmps79
  go_wp2
  go_loopg [5] n (fun kk v5 wr => v5 = .int .i64 ((kk : Int) - 1) ∧ kk ≤ n ∧ Hid (∀ q, kk ≤ q → q < n → a.getD q 0 = b.getD q 0) ∧ wr = w)
  case atStart => exact ⟨rfl, Nat.le_refl _, Lib.hid fun q h1 h2 => by omega, rfl⟩
  case round =>
    obtain ⟨rfl, hk, he, rfl⟩ := hrel
    by_cases h0 : gk = 0
    · subst h0
      have hf : res = false := by
        rw [← Hres.out, HV.out.1, HV.out.2, valN_eq n fun q hq => he.out q (by omega) hq]
        simp
      subst hf
      go_wp2
      go_ret
      exact ⟨rfl, rfl⟩
    · obtain ⟨j, rfl⟩ : ∃ j, gk = j + 1 := ⟨gk - 1, by omega⟩
      have e1 : ((j + 1 : Nat) : Int) - 1 = (j : Int) := by omega
      rw [e1]
      have j0 : (0 : Int) ≤ (j : Int) := by omega
      have jn : (j : Int) < (n : Int) := by omega
      have c1 := RA.out j (by have := HN.out.1; omega)
      have da := HD.out.1.fn j
      have db := HD.out.2.fn j
      have HC : Hid ((a.getD j 0 = b.getD j 0 → ∀ q, j ≤ q → q < n → a.getD q 0 = b.getD q 0) ∧ (b.getD j 0 < a.getD j 0 → res = true) ∧ (a.getD j 0 < b.getD j 0 → res = false)) := Lib.hid ⟨fun h q h1 h2 => by
          by_cases hq : q = j
          · subst hq; exact h
          · exact he.out q (by omega) h2, fun h => by
          rw [← Hres.out, HV.out.1, HV.out.2]
          exact decide_eq_true (valN_gt HD.out.1.fn HD.out.2.fn j h n (by omega) fun q h1 h2 => he.out q (by omega) h2), fun h => by
          rw [← Hres.out, HV.out.1, HV.out.2]
          have := valN_gt HD.out.2.fn HD.out.1.fn j h n (by omega) fun q h1 h2 => (he.out q (by omega) h2).symm
          exact decide_eq_false (by omega)⟩
      by_cases hjm : (j : Int) < (m : Int)
      · have c2 := RB.out j (by have := HN.out.2; omega)
        simp only at da db
        clear he
        generalize a.getD j 0 = x at *
        generalize b.getD j 0 = y at *
        by_cases hxy : x = y
        · subst hxy
          have HC1 := Lib.hid (HC.out.1 rfl)
          clear HC
          go_wp2
          go_roundg j
          case measure => omega
          case rel => exact ⟨rfl, by omega, HC1, rfl⟩
        · have hne : (x == y) = false := by simpa using hxy
          have hne2 : (x != y) = true := by simpa using hxy
          by_cases hlt : y < x
          · have hr := HC.out.2.1 hlt
            subst hr
            clear HC
            go_wp2
            go_ret
            exact ⟨by simp [hlt], rfl⟩
          · have hr := HC.out.2.2 (by omega)
            subst hr
            clear HC
            go_wp2
            go_ret
            exact ⟨by simp [hlt], rfl⟩
      · have hy : b.getD j 0 = 0 := by simp [List.getD_eq_getElem?_getD, List.getElem?_eq_none (show b.length ≤ j by have := HN.out.2; omega)]
        simp only at da db
        rw [hy] at HC
        clear he
        generalize a.getD j 0 = x at *
        by_cases hxy : x = 0
        · subst hxy
          have HC1 := Lib.hid (HC.out.1 rfl)
          clear HC
          go_wp2
          go_roundg j
          case measure => omega
          case rel => exact ⟨rfl, by omega, HC1, rfl⟩
        · have hne : (x == 0) = false := by simpa using hxy
          have hne2 : (x != 0) = true := by simpa using hxy
          have hlt : 0 < x := by omega
          have hr := HC.out.2.1 hlt
          subst hr
          clear HC
          go_wp2
          go_ret
          exact ⟨by simp [hlt], rfl⟩
end Go.Proofs.YtmppagiaonbggaaDoor
