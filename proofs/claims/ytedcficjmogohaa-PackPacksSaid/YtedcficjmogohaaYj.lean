/- Texts of one proof, merged: XN0 XN1 XN2 XN3 XNb XNc XR3. -/
import Derived.Test.YtedcficjmogohaaYi
import Derived.Laws.IdiomStrings
import Derived.Lib.BufferRead
import Derived.Lib.SlBytesConst
import Derived.Lib.SmallJoins
/- Pack, Unpack and Read of package pack: what they answer, and the walks. -/
namespace Go.Proofs.Ytedcficjmogohaa
set_option linter.unusedVariables false
set_option linter.unusedSimpArgs false
set_option maxRecDepth 100000
open Go.RowKit

def ints (l : List UInt8) : List Int := l.map fun c => (c.toNat : Int)
theorem ints_length (l : List UInt8) : (ints l).length = l.length := by simp [ints]
theorem ints_append (a b : List UInt8) : ints (a ++ b) = ints a ++ ints b := by simp [ints]
theorem ints_ok (l : List UInt8) : bytesOk (ints l) := by
  intro c hc
  obtain ⟨u, _, rfl⟩ := List.mem_map.1 hc
  have := u.toNat_lt
  omega
theorem bytesV_ints (l : List UInt8) : bytesV (ints l) = bytesU l := by simp [bytesV, ints, bytesU]
def u8L (l : List Int) : List UInt8 := l.map fun c => UInt8.ofNat c.toNat
theorem u8L_length (l : List Int) : (u8L l).length = l.length := by simp [u8L]
theorem ints_u8L {l : List Int} (h : bytesOk l) : ints (u8L l) = l := by
  unfold ints u8L
  rw [List.map_map]
  conv => rhs; rw [← List.map_id l]
  apply List.map_congr_left
  intro c hc
  have := h c hc
  show ((UInt8.ofNat c.toNat).toNat : Int) = c
  simp
  omega
theorem u8L_ints (l : List UInt8) : u8L (ints l) = l := by
  unfold ints u8L
  rw [List.map_map]
  conv => rhs; rw [← List.map_id l]
  apply List.map_congr_left
  intro c _
  show UInt8.ofNat ((c.toNat : Int)).toNat = c
  simp
theorem rend_bytes {rT : RW} {room : Int} (ok : rT.ok room) : bytesOk (rend rT) := by
  intro c hc
  have h0 := ok.low0
  have h1 := ok.low1
  rcases List.mem_append.1 hc with h | h
  · exact ok.bytes c h
  · simp at h; omega
theorem writeN_rend (l : List Tk) (hl : l.length ≤ 4294967296) : writeN l = rend (rOf (wrN l).1) ∧ (rOf (wrN l).1).ok 1000 := by
  have hg := wrN_gd l 1000 (by omega) (by omega)
  exact ⟨end_rel hg.1.live (by omega) hg.1.calm (rel_rOf _), hg.1.good.ok⟩
theorem writeN_ok (l : List Tk) (hl : l.length ≤ 4294967296) : bytesOk (writeN l) := by
  obtain ⟨h1, h2⟩ := writeN_rend l hl
  rw [h1]; exact rend_bytes h2
theorem writeN_len (l : List Tk) (hl : l.length ≤ 4294967296) : (writeN l).length ≤ 1099511626780 := by
  obtain ⟨h1, h2⟩ := writeN_rend l hl
  rw [h1]
  have := h2.len
  simp [rend]
  omega
def writeU (l : List Tk) : List UInt8 := u8L (writeN l)
theorem writeU_ints (l : List Tk) (hl : l.length ≤ 4294967296) : ints (writeU l) = writeN l := ints_u8L (writeN_ok l hl)

/-- What Pack answers. -/
def packN (b : List UInt8) (win : Int) : List UInt8 × Int :=
  if win < 1 ∨ 32768 < win then ([], 1) else if 65536 < b.length then ([], 7) else (onumI b.length ++ writeU (parseN b win), 0)
/-- What Unpack answers. -/
def unpackN (x : List UInt8) : List UInt8 × Int :=
  if (readNum ⟨x, 0⟩ 65536).2.err ≠ 0 then ([], (readNum ⟨x, 0⟩ 65536).2.err)
  else (readN (ints (readNum ⟨x, 0⟩ 65536).2.rest) (readNum ⟨x, 0⟩ 65536).1).2

def RetBE (w : World) (r : List UInt8 × Int) (e : Ending) (w' : World) : Prop :=
  ∃ A c, e = .returned (.tuple #[.slice A r.1.length c, .int .i64 r.2]) ∧ Rd w' (.slice A r.1.length c) (bytesU r.1) ∧ (r.1.length ≤ c ∧ c ≤ 9223372036854775807) ∧ Below w.heap.size w w'
theorem RetBE.err {w w' : World} {z : Int} {e : Ending} (he : e = .returned (.tuple #[.slice none 0 0, .int .i64 z])) (hb : Below w.heap.size w w') : RetBE w ([], z) e w' :=
  ⟨none, 0, he, Rd.nil _, by simp, hb⟩
def RetTE (w : World) (r : List Tk × Int) (e : Ending) (w' : World) : Prop :=
  ∃ A c, e = .returned (.tuple #[.slice A r.1.length c, .int .i64 r.2]) ∧ RdA 3 tkL w' A r.1 ∧ (r.1.length ≤ c ∧ c ≤ 9223372036854775807) ∧ Below w.heap.size w w'

theorem packN_len (b : List UInt8) (win : Int) (hp : (parseN b win).length ≤ 4294967296) : (packN b win).1.length ≤ 1099511627776 := by
  unfold packN
  split
  · simp
  split
  · simp
  · have h1 := onumI_len (b.length : Int)
    have h2 := writeN_len (parseN b win) hp
    have h3 : (writeU (parseN b win)).length = (writeN (parseN b win)).length := u8L_length _
    rw [List.length_append]
    omega

theorem rread_any (x : List UInt8) (vx : Value) (hl : x.length ≤ 1099511627776) (n : Int) (hn1 : -9223372036854775808 ≤ n) (hn2 : n ≤ 9223372036854775807) (w : World) (hr : Rd w vx (bytesU x)) :
    Calls Try.prog 15 #[vx, .int .i64 n] w (RetTE w ((readN (ints x) n).1, (readN (ints x) n).2.2)) := by
  have H := Lib.hid (read_any (ints x) vx (ints_ok x) (by rw [ints_length]; exact hl) n hn1 hn2 w (by rw [bytesV_ints]; exact hr))
  generalize readN (ints x) n = r at *
  clear hr
  go_enter Try.func15, Try.ntmps15
  go_wp2_with fail
  refine H.out.mono ?_
  rintro e w1 ⟨A1, c1, A2, c2, rfl, h1, h2, h3, h4, hb⟩
  clear H
  go_wp2
  go_ret2
  exact ⟨A1, c1, rfl, h1, h3, hb⟩

theorem parseN_le (b : List UInt8) (win : Int) : (parseN b win).length ≤ b.length := by
  unfold parseN
  split
  · rename_i h
    have hN : (b.length : Int) ≤ b.length := Int.le_refl _
    have he := parse_exp b win h.1 h.2 b.length hN
    unfold parseN at he
    rw [if_pos h] at he
    have := (expT_len (n := (b.length : Int)) _ [] b (by simp) he).2
    simpa using this
  · simp
set_option maxHeartbeats 1600000 in
theorem pack_any (A : Option Addr) (c : Nat) (b : List UInt8) (hc : b.length ≤ c ∧ c ≤ 9223372036854775807) (win : Int) (w : World) (hr : Rd w (.slice A b.length c) (bytesU b)) :
    Calls Try.prog 11 #[.slice A b.length c, .int .i64 win] w (RetBE w (packN b win)) := by
  have hb0 := Below.refl w.heap.size w
  by_cases h1 : win < 1
  · have hres : packN b win = ([], 1) := by unfold packN; rw [if_pos (.inl h1)]
    rw [hres]
    clear hr hres
    go_enter Try.func11, Try.ntmps11
    go_wp2
    go_ret2
    exact RetBE.err rfl hb0
  · by_cases h2 : 32768 < win
    · have hres : packN b win = ([], 1) := by unfold packN; rw [if_pos (.inr h2)]
      rw [hres]
      clear hr hres
      go_enter Try.func11, Try.ntmps11
      go_wp2
      go_ret2
      exact RetBE.err rfl hb0
    · by_cases h3 : (65536 : Int) < (b.length : Int)
      · have hres : packN b win = ([], 7) := by unfold packN; rw [if_neg (by omega), if_pos (by omega)]
        rw [hres]
        clear hr hres
        generalize hX : b.length = L at *
        generalize hY : (L : Int) = X at *
        clear hX
        go_enter Try.func11, Try.ntmps11
        go_wp2
        go_ret2
        exact RetBE.err rfl hb0
      · have hres : packN b win = (onumI b.length ++ writeU (parseN b win), 0) := by unfold packN; rw [if_neg (by omega), if_neg (by omega)]
        rw [hres]
        have hpl := parseN_le b win
        have N := Lib.hid (number_any (.slice none 0 0) [] (by simp) (b.length : Int) w (Rd.nil w))
        have HP := Lib.hid (fun w1 (b1 : Below w.heap.size w w1) => parse_any A c b (by omega) hc win w1 (hr.below b1))
        have hol := onumI_len (b.length : Int)
        have hwl := writeN_len (parseN b win) (by omega)
        have hwu : (writeU (parseN b win)).length = (writeN (parseN b win)).length := u8L_length _
        have hbu : bytesV (writeN (parseN b win)) = bytesU (writeU (parseN b win)) := by rw [← bytesV_ints, writeU_ints _ (by omega)]
        have HW : Hid (∀ A1 c1 w1, RdA 3 tkL w1 A1 (parseN b win) → Calls Try.prog 17 #[.slice A1 (parseN b win).length c1] w1 (RetB w1 (writeU (parseN b win)))) := Lib.hid (fun A1 c1 w1 h => by
          refine (write_any A1 c1 (parseN b win) (by omega) w1 h).mono ?_
          rintro e w2 ⟨v, he, ho, hb⟩
          rw [hbu, ← hwu] at ho
          exact ⟨v, he, ho, hb⟩)
        have Hb : Hid ((onumI (b.length : Int)).length + (writeU (parseN b win)).length ≤ 140737488355328) := Lib.hid (by omega)
        simp only [List.nil_append] at N
        have n3 : (b.length : Int) ≤ 65536 := by omega
        clear hr hres hwl hwu hbu hol hpl
        generalize writeU (parseN b win) = u at *
        generalize parseN b win = tk at *
        generalize onumI (b.length : Int) = on at *
        go_enter Try.func11, Try.ntmps11
        go_wp2_with fail
        refine N.out.mono ?_
        rintro e w1 ⟨v1, rfl, o1, b1⟩
        have o1 : Own w.heap.size (Rw 5 1 v1 on.length (bytesU on) * Emp) w1 := Own.fresh (Nat.le_refl _) (Own.start _ _) o1 b1
        have B1 := b1.size
        have HP1 := Lib.hid (HP.out w1 b1)
        clear HP N
        go_wp2_with fail
        refine HP1.out.mono ?_
        rintro e w2 ⟨v2, rfl, o2, b2⟩
        have o2 := Own.fresh B1 o1 o2 b2
        have hb2 := b1.trans (b2.mono B1)
        have B2 := hb2.size
        obtain ⟨A2, c2, rfl⟩ := o2.row_n
        have HW2 := Lib.hid (HW.out A2 c2 w2 (Own.rdA tkL_len rfl o2))
        clear HW HP1 b2 o1
        go_wp2_with fail
        refine HW2.out.mono ?_
        rintro e w3 ⟨v3, rfl, o3, b3⟩
        have o3 := Own.fresh B2 o2 o3 b3
        have hb3 := hb2.trans (b3.mono B2)
        have B3 := hb3.size
        obtain ⟨A3, c3, rfl⟩ := o3.row_n
        obtain ⟨v4, w4, hrun, o4, b4⟩ := byte_append B3 ((o3.foc (Rw 5 1 v1 on.length (bytesU on)))) o3.rd Hb.out
        have hb4 := hb3.trans b4
        have Hrun := Lib.hid hrun
        have Fin : Hid (RetBE w (on ++ u, 0) (.returned (.tuple #[v4, .int .i64 0])) w4) := Lib.hid (by
          obtain ⟨A4, c4, rfl⟩ := o4.row_n
          exact ⟨A4, c4, rfl, o4.rd, o4.cap, hb4⟩)
        obtain ⟨A1, c1, rfl⟩ := (o3.foc (Rw 5 1 v1 on.length (bytesU on))).row_n
        clear hrun o4 b4 o3 b3 o2 HW2 hb4
        go_wp2_with (at_builtin; refine wpList_append_run rfl (.tmp 19) (.tmp 23) 22 rfl rfl rfl Hrun.out ?_)
        go_ret2
        exact Fin.out
end Go.Proofs.Ytedcficjmogohaa

/- The walk over Unpack of package pack. -/
namespace Go.Proofs.Ytedcficjmogohaa
set_option linter.unusedVariables false
set_option linter.unusedSimpArgs false
set_option maxRecDepth 100000
open Go.RowKit

theorem readNum_suffix (s : OS) (most : Int) : ∃ k, k ≤ s.rest.length ∧ (readNum s most).2.rest = s.rest.drop k := by
  unfold readNum
  split
  · exact ⟨0, Nat.zero_le _, rfl⟩
  split
  · split <;> exact ⟨0, Nat.zero_le _, rfl⟩
  · rename_i k hk
    have := endN_lt hk
    split
    · exact ⟨0, Nat.zero_le _, rfl⟩
    split
    · exact ⟨k + 1, this, rfl⟩
    split
    · exact ⟨k + 1, this, rfl⟩
    · exact ⟨k + 1, this, rfl⟩
theorem Rd.dropU {w : World} {A : Option Addr} {c : Nat} {x : List UInt8} (h : Rd w (.slice A x.length c) (bytesU x)) (hc : x.length ≤ c) (k : Nat) (hk : k ≤ x.length) :
    Rd w (.slice (if c = k then A else A.map (fun a => a.add k)) (x.length - k) (c - k)) (bytesU (x.drop k)) := by
  by_cases he : k = x.length
  · have hd : x.drop k = [] := List.drop_eq_nil_of_le (by omega)
    rw [hd, show x.length - k = 0 by omega]
    exact ⟨_, c - k, rfl, fun hne => absurd rfl hne⟩
  · rw [if_neg (by omega)]
    exact h.part k (x.length - k) (c - k) (bytesU (x.drop k)) (by unfold bytesU; rw [← List.map_drop, ← List.map_take]; congr 1; rw [List.take_of_length_le (by rw [List.length_drop]; omega)]) (by rw [bytesU_length, List.length_drop])
set_option maxHeartbeats 1600000 in
theorem unpack_any (A : Option Addr) (c : Nat) (x : List UInt8) (hbl : x.length ≤ 1099511627776) (hc : x.length ≤ c ∧ c ≤ 9223372036854775807) (w : World) (hr : Rd w (.slice A x.length c) (bytesU x)) :
    Calls Try.prog 13 #[.slice A x.length c] w (RetBE w (unpackN x)) := by
  have hb0 := Below.refl w.heap.size w
  have HN := Lib.hid (rnew_any (.slice A x.length c) x (by omega) w.heap.size Emp w (Nat.le_refl _) (Own.start _ _) hr)
  have Hr := Lib.hid (fun w1 (b1 : Below w.heap.size w w1) => hr.below b1)
  have HR := Lib.hid (fun p w1 (h1 : w.heap.size ≤ w1.heap.size) (o : Own w.heap.size (Rdr p ⟨x, 0⟩ [] * Emp) w1) => rnum_any p ⟨x, 0⟩ [] (by show x.length ≤ _; omega) 65536 w.heap.size Emp w1 h1 o)
  have Hs := Lib.hid (readNum_suffix ⟨x, 0⟩ 65536)
  have Hg := Lib.hid (readNum_range ⟨x, 0⟩ 65536 (by omega))
  have HU : Hid (unpackN x = if (readNum ⟨x, 0⟩ 65536).2.err ≠ 0 then ([], (readNum ⟨x, 0⟩ 65536).2.err) else (readN (ints (readNum ⟨x, 0⟩ 65536).2.rest) (readNum ⟨x, 0⟩ 65536).1).2) := Lib.hid rfl
  generalize readNum ⟨x, 0⟩ 65536 = y at *
  obtain ⟨n, rest, z⟩ := y
  simp only at *
  generalize unpackN x = res at *
  clear hr
  go_enter Try.func13, Try.ntmps13
  go_wp2_with fail
  refine HN.out.mono ?_
  rintro e w1 ⟨p, rfl, o1, b1⟩
  have HR1 := Lib.hid (HR.out p w1 b1.size o1)
  clear HN HR o1
  go_wp2_with fail
  refine HR1.out.mono ?_
  rintro e w2 ⟨rfl, o2, b2⟩
  have hb2 := b1.trans b2
  have HE := Lib.hid (rerr_any p ⟨rest, z⟩ [] w.heap.size Emp w2 o2)
  have HL := Lib.hid (rleft_any p ⟨rest, z⟩ [] w.heap.size Emp w2 o2)
  simp only at HE
  clear HR1 b2 b1 o2
  go_wp2_with fail
  refine HE.out.mono ?_
  rintro e w3 ⟨rfl, rfl⟩
  by_cases hz : z = 0
  · subst hz
    have HU2 := Lib.hid (HU.out.trans (if_neg (by simp)))
    obtain ⟨k, hk, hrest⟩ := Hs.out
    have hl : oleft ⟨rest, 0⟩ = rest.length := rfl
    have hrl : rest.length = x.length - k := by rw [hrest, List.length_drop]
    rw [hl, hrl] at HL
    have e1 : ((x.length : Int) - ((x.length - k : Nat) : Int)) = (k : Int) := by omega
    have hrd := (Hr.out w3 hb2).dropU hc.1 k hk
    rw [← hrest, show x.length - k = rest.length from hrl.symm] at hrd
    have HRd := Lib.hid (read_any (ints rest) _ (ints_ok rest) (by rw [ints_length]; omega) n (by have := Hg.out.1; omega) (by have := Hg.out.2.1; omega) w3 (by rw [bytesV_ints]; exact hrd))
    have Hrl := Lib.hid hrl
    generalize readN (ints rest) n = r at *
    have m1 : (k : Int) ≤ (x.length : Int) := by omega
    have m2 : (x.length : Int) ≤ (c : Int) := by omega
    have m3 : (k : Int) ≤ (c : Int) := by omega
    have m4 : (0 : Int) ≤ (k : Int) := by omega
    clear HU hrest hrd Hs hl Hg Hr HE hk
    rw [hrl] at HRd
    generalize x.length = L at *
    by_cases hck : c = k
    · subst hck
      have hLc : L = c := by omega
      rw [if_pos rfl, Nat.sub_self, show L - c = 0 by omega] at HRd
      rw [show ((L - c : Nat) : Int) = 0 by omega] at HL
      subst hLc
      clear e1 m1 m2 m3
      go_wp2_with fail
      refine HL.out.mono ?_
      rintro e w4 ⟨rfl, rfl⟩
      go_wp2_with fail
      refine HRd.out.mono ?_
      rintro e w5 ⟨A1, c1, A2, c2, rfl, h1, h2, h3, h4, hb⟩
      have hb5 := hb2.trans (hb.mono hb2.size)
      have Fin : Hid (RetBE w res (.returned (.tuple #[.slice A2 r.2.1.length c2, .int .i64 r.2.2])) w5) := Lib.hid (by
        rw [HU2.out]
        exact ⟨A2, c2, rfl, h2, h4, hb5⟩)
      clear HRd h1 h2 h3 h4 hb hb5 HU2
      go_wp2
      go_ret2
      exact Fin.out
    · rw [if_neg hck] at HRd
      go_wp2_with fail
      refine HL.out.mono ?_
      rintro e w4 ⟨rfl, rfl⟩
      go_wp2_with fail
      refine HRd.out.mono ?_
      rintro e w5 ⟨A1, c1, A2, c2, rfl, h1, h2, h3, h4, hb⟩
      have hb5 := hb2.trans (hb.mono hb2.size)
      have Fin : Hid (RetBE w res (.returned (.tuple #[.slice A2 r.2.1.length c2, .int .i64 r.2.2])) w5) := Lib.hid (by
        rw [HU2.out]
        exact ⟨A2, c2, rfl, h2, h4, hb5⟩)
      clear HRd h1 h2 h3 h4 hb hb5 HU2
      go_wp2
      go_ret2
      exact Fin.out
  · have hres : res = ([], z) := HU.out.trans (if_pos hz)
    subst hres
    have hz' : (z == 0) = false := by simpa using hz
    clear HU Hs Hg Hr HL HE
    go_wp2
    go_ret2
    exact RetBE.err rfl hb2
end Go.Proofs.Ytedcficjmogohaa

/- What was packed is unpacked, plain; and the walk over awake of the laws on pack. -/
namespace Go.Proofs.Ytedcficjmogohaa
set_option linter.unusedVariables false
set_option linter.unusedSimpArgs false
set_option maxRecDepth 100000
open Go.RowKit

theorem onumI_nat (n : Nat) (h : n ≤ 1099511627775) : onumI (n : Int) = onum n := by unfold onumI; rw [if_neg (by omega), Int.toNat_natCast]
theorem unpack_pack (b : List UInt8) (win : Int) (h1 : 1 ≤ win) (h2 : win ≤ 32768) (hb : b.length ≤ 65536) : unpackN (packN b win).1 = (b, 0) := by
  have hp : packN b win = (onum b.length ++ writeU (parseN b win), 0) := by unfold packN; rw [if_neg (by omega), if_neg (by omega), onumI_nat _ (by omega)]
  have hr : readNum ⟨onum b.length ++ writeU (parseN b win), 0⟩ 65536 = ((b.length : Int), ⟨writeU (parseN b win), 0⟩) := readNum_onum (by omega) 65536 (by omega) _
  have hl := parseN_le b win
  rw [hp]
  unfold unpackN
  rw [hr]
  simp only
  rw [if_neg (by simp), writeU_ints _ (by omega), read_write _ b hb (parse_exp b win h1 h2 _ (Int.le_refl _))]
theorem pack_nil : packN [] 9 = ([0, 0, 0, 0, 0], 0) := by
  have h : writeU (parseN [] 9) = [0, 0, 0, 0] := by
    have e : parseN [] 9 = [] := List.eq_nil_of_length_eq_zero (by have := parseN_le [] 9; simpa using this)
    rw [e]
    show u8L (endS begin0).out = _
    rw [aw_a]
    rfl
  unfold packN
  rw [if_neg (by omega), if_neg (by simp), h, onumI_nat _ (by simp), onum_small (by simp)]
  rfl

def strU (l : List UInt8) : ByteArray := ⟨l.toArray⟩
/-- string(b) of bytes that one can read. -/
theorem str_of_u {w : World} {v : Value} {data : List UInt8} (h : Rd w v (bytesU data)) : (convert 22 9 v).run Try.prog w = .ok (.string (strU data)) w := by
  obtain ⟨A, c, rfl, hr⟩ := h
  rw [bytesU_length]
  by_cases hne : bytesU data = []
  · obtain rfl : data = [] := by simpa [bytesU] using hne
    cases A with
    | none => exact run_convert_bytes_nil w 22 5 Try.underlying22 Try.underlying5 0 c 9 Try.underlying9
    | some ad => exact run_convert_bytes_back w 22 9 5 ad c [] Try.underlying22 Try.underlying5 Try.underlying9 (fun j hj => absurd hj (by simp))
  · obtain ⟨ad, rfl, hc⟩ := hr hne
    exact run_convert_bytes_back w 22 9 5 ad c data Try.underlying22 Try.underlying5 Try.underlying9 (fun j hj => hc j _ (by simp [bytesU, hj]))
theorem strU_toList (l : List UInt8) : (strU l).toList = l := by rw [ByteArray.toList_eq]; rfl
def abc : List UInt8 := [97, 98, 99, 97, 98, 99, 97, 98, 99]
set_option maxRecDepth 100000 in
set_option maxHeartbeats 3200000 in
theorem awake_any (w : World) : Calls Try.prog 10 #[] w fun e w' => e = .returned (.bool true) ∧ Below w.heap.size w w' := by
  have hb0 := Below.refl w.heap.size w
  have H1 := Lib.hid (pack_any none 0 [] (by simp) 9 w (Rd.nil w))
  rw [pack_nil] at H1
  have hA := unpack_pack abc 9 (by omega) (by omega) (by decide)
  have hp0 : (packN abc 9).2 = 0 := by unfold packN; rw [if_neg (by omega), if_neg (by decide)]
  have hpl := packN_len abc 9 (Nat.le_trans (parseN_le abc 9) (by decide))
  have HA := Lib.hid hA
  have Hpl := Lib.hid hpl
  clear hA hpl
  have HP := Lib.hid (fun w1 g (h : Rd w1 (.slice (some ⟨g, 0, none⟩) 9 9) (bytesU abc)) => pack_any (some ⟨g, 0, none⟩) 9 abc (by decide) 9 w1 h)
  generalize hY : packN abc 9 = y at *
  obtain ⟨y, z⟩ := y
  simp only at hp0
  subst hp0
  clear hY
  have hlen : abc.length = 9 := rfl
  simp only [hlen] at HP
  go_enter Try.func10, Try.ntmps10
  go_wp2_with fail
  refine H1.out.mono ?_
  rintro e w1 ⟨A1, c1, rfl, r1, h1, b1⟩
  have hcv := Lib.run_convert_bytes_const (P := Try.prog) w1 22 5 #[.int .u8 97, .int .u8 98, .int .u8 99, .int .u8 97, .int .u8 98, .int .u8 99, .int .u8 97, .int .u8 98, .int .u8 99] 9 9 Try.underlying22 Try.underlying5
  have hba := (Below.refl w1.heap.size w1).alloc (Nat.le_refl _) (.cells #[.int .u8 97, .int .u8 98, .int .u8 99, .int .u8 97, .int .u8 98, .int .u8 99, .int .u8 97, .int .u8 98, .int .u8 99] 5 (9, 10))
  have hrd : Rd (w1.alloc (.cells #[.int .u8 97, .int .u8 98, .int .u8 99, .int .u8 97, .int .u8 98, .int .u8 99, .int .u8 97, .int .u8 98, .int .u8 99] 5 (9, 10))) (.slice (some ⟨w1.heap.size, 0, none⟩) 9 9) (bytesU abc) :=
    ⟨some ⟨w1.heap.size, 0, none⟩, 9, rfl, fun _ => ⟨_, rfl, fun j u hu => by rw [Addr.add_lit, Nat.zero_add, World.cell?_alloc_mark]; simpa [bytesU, abc] using hu⟩⟩
  have r2 := r1.below hba
  have b2 := b1.trans (hba.mono b1.size)
  have HP2 := Lib.hid (HP.out _ w1.heap.size hrd)
  clear r1 hba HP H1 hrd b1
  simp only [List.length_cons, List.length_nil] at r2
  rw [show (#[.int .u8 97, .int .u8 98, .int .u8 99, .int .u8 97, .int .u8 98, .int .u8 99, .int .u8 97, .int .u8 98, .int .u8 99] : Array Value).size = 9 from rfl] at hcv
  go_wp2_with fail
  refine HP2.out.mono ?_
  rintro e w3 ⟨A3, c3, rfl, r3, h3, b3⟩
  have hb3 := b2.trans (b3.mono b2.size)
  have r4 := r2.below b3
  have HU := Lib.hid (unpack_any A3 c3 y Hpl.out h3 w3 r3)
  rw [HA.out] at HU
  clear HP2 r2 r3 b3 b2
  go_wp2_with fail
  refine HU.out.mono ?_
  rintro e w5 ⟨A5, c5, rfl, r5, h5, b5⟩
  have hb5 := hb3.trans (b5.mono hb3.size)
  have s1 : (convert 22 9 (.slice A1 5 c1)).run Try.prog w5 = .ok (.string (strU [0, 0, 0, 0, 0])) w5 := str_of_u (r4.below b5)
  have s2 : (convert 22 9 (.slice A5 9 c5)).run Try.prog w5 = .ok (.string (strU abc)) w5 := str_of_u r5
  clear r4 r5 HU b5 hb3
  have q1 : ((strU [0, 0, 0, 0, 0]).toList == [0, 0, 0, 0, 0]) = true := by rw [strU_toList]; rfl
  have q2 : ((strU abc).toList == [97, 98, 99, 97, 98, 99, 97, 98, 99]) = true := by rw [strU_toList]; rfl
  go_wp2
  go_ret
  exact ⟨rfl, hb5⟩

end Go.Proofs.Ytedcficjmogohaa

/- The walks over the laws PackBack, PackWindows and PackBound. -/
namespace Go.Proofs.Ytedcficjmogohaa
set_option linter.unusedVariables false
set_option linter.unusedSimpArgs false
set_option maxRecDepth 100000
open Go.RowKit

def TrueB (w : World) (e : Ending) (w' : World) : Prop := e = .returned (.bool true) ∧ Below w.heap.size w w'
set_option maxHeartbeats 1600000 in
theorem packback_walk (A : Option Addr) (c : Nat) (b : List UInt8) (hc : b.length ≤ c ∧ c ≤ 9223372036854775807) (win : Int) (w : World) (hr : Rd w (.slice A b.length c) (bytesU b)) :
    Calls Try.prog 4 #[.slice A b.length c, .int .i64 win] w (TrueB w) := by
  have hb0 := Below.refl w.heap.size w
  obtain ⟨n, hn⟩ : ∃ n : Int, (b.length : Int) = n := ⟨_, rfl⟩
  by_cases hbig : (2000 : Int) < (b.length : Int)
  · clear hr
    generalize b.length = L at *
    go_enter Try.func4, Try.ntmps4
    go_wp2_with fail
    refine (awake_any _).mono ?_
    rintro e wz ⟨rfl, bz⟩
    go_wp2
    go_ret
    exact ⟨rfl, bz⟩
  by_cases h1 : win < 1
  · clear hr
    generalize b.length = L at *
    go_enter Try.func4, Try.ntmps4
    go_wp2_with fail
    refine (awake_any _).mono ?_
    rintro e wz ⟨rfl, bz⟩
    go_wp2
    go_ret
    exact ⟨rfl, bz⟩
  by_cases h2 : 32768 < win
  · clear hr
    generalize b.length = L at *
    go_enter Try.func4, Try.ntmps4
    go_wp2_with fail
    refine (awake_any _).mono ?_
    rintro e wz ⟨rfl, bz⟩
    go_wp2
    go_ret
    exact ⟨rfl, bz⟩
  have hp0 : (packN b win).2 = 0 := by unfold packN; rw [if_neg (by omega), if_neg (by omega)]
  have HA1 := Lib.hid (unpack_pack b win (by omega) (by omega) (by omega))
  have HP1 := Lib.hid (fun w1 (h : Below w.heap.size w w1) => pack_any A c b hc win w1 (hr.below h))
  have HL1 := Lib.hid (packN_len b win (Nat.le_trans (parseN_le b win) (by omega)))
  generalize packN b win = y1 at *
  obtain ⟨y1, z1⟩ := y1
  simp only at hp0
  subst hp0
  have Hr := Lib.hid (fun w1 (h : Below w.heap.size w w1) => hr.below h)
  clear hr hn
  go_enter Try.func4, Try.ntmps4
  go_wp2_with fail
  refine (HP1.out w hb0).mono ?_
  rintro e w1 ⟨A1, c1, rfl, r1, g1, b1⟩
  have HU := Lib.hid (unpack_any A1 c1 y1 HL1.out g1 w1 r1)
  rw [HA1.out] at HU
  clear HP1 r1
  go_wp2_with fail
  refine HU.out.mono ?_
  rintro e w2 ⟨A2, c2, rfl, r2, g2, b2⟩
  have hb2 := b1.trans (b2.mono b1.size)
  have s1 : (convert 22 9 (.slice A2 b.length c2)).run Try.prog w2 = .ok (.string (strU b)) w2 := str_of_u r2
  have s2 : (convert 22 9 (.slice A b.length c)).run Try.prog w2 = .ok (.string (strU b)) w2 := str_of_u (Hr.out w2 hb2)
  have heq : ((strU b).toList == (strU b).toList) = true := by simp
  clear HU r2 b2 b1
  go_wp2_with fail
  refine (awake_any _).mono ?_
  rintro e wz ⟨rfl, bz⟩
  go_wp2
  go_ret
  exact ⟨rfl, hb2.trans (bz.mono hb2.size)⟩

set_option maxHeartbeats 1600000 in
theorem packbound_walk (A : Option Addr) (c : Nat) (b : List UInt8) (hc : b.length ≤ c ∧ c ≤ 9223372036854775807) (win : Int) (w : World) (hr : Rd w (.slice A b.length c) (bytesU b))
    (hlaw : b.length ≤ 2000 → 1 ≤ win → win ≤ 32768 → (packN b win).1.length ≤ 8 * b.length + 10 ∧ 5 ≤ (packN b win).1.length) :
    Calls Try.prog 6 #[.slice A b.length c, .int .i64 win] w (TrueB w) := by
  have hb0 := Below.refl w.heap.size w
  by_cases hbig : (2000 : Int) < (b.length : Int)
  · clear hr hlaw
    generalize b.length = L at *
    go_enter Try.func6, Try.ntmps6
    go_wp2_with fail
    refine (awake_any _).mono ?_
    rintro e wz ⟨rfl, bz⟩
    go_wp2
    go_ret
    exact ⟨rfl, bz⟩
  by_cases h1 : win < 1
  · clear hr hlaw
    generalize b.length = L at *
    go_enter Try.func6, Try.ntmps6
    go_wp2_with fail
    refine (awake_any _).mono ?_
    rintro e wz ⟨rfl, bz⟩
    go_wp2
    go_ret
    exact ⟨rfl, bz⟩
  by_cases h2 : 32768 < win
  · clear hr hlaw
    generalize b.length = L at *
    go_enter Try.func6, Try.ntmps6
    go_wp2_with fail
    refine (awake_any _).mono ?_
    rintro e wz ⟨rfl, bz⟩
    go_wp2
    go_ret
    exact ⟨rfl, bz⟩
  have hlaw := hlaw (by omega) (by omega) (by omega)
  have hp0 : (packN b win).2 = 0 := by unfold packN; rw [if_neg (by omega), if_neg (by omega)]
  have HA1 := Lib.hid (unpack_pack b win (by omega) (by omega) (by omega))
  have HP1 := Lib.hid (fun w1 (h : Below w.heap.size w w1) => pack_any A c b hc win w1 (hr.below h))
  have HL1 := Lib.hid (packN_len b win (Nat.le_trans (parseN_le b win) (by omega)))
  generalize packN b win = y1 at *
  obtain ⟨y1, z1⟩ := y1
  simp only at hp0
  subst hp0
  have hlaw : y1.length ≤ 8 * b.length + 10 ∧ 5 ≤ y1.length := hlaw
  have l1 : (y1.length : Int) ≤ 8 * (b.length : Int) + 10 := by omega
  have l2 : (5 : Int) ≤ (y1.length : Int) := by omega
  clear hr hlaw HA1 HL1
  go_enter Try.func6, Try.ntmps6
  go_wp2_with fail
  refine (HP1.out w hb0).mono ?_
  rintro e w1 ⟨A1, c1, rfl, r1, g1, b1⟩
  clear HP1 r1
  go_wp2_with fail
  refine (awake_any _).mono ?_
  rintro e wz ⟨rfl, bz⟩
  go_wp2
  go_ret
  exact ⟨rfl, b1.trans (bz.mono b1.size)⟩

set_option maxHeartbeats 1600000 in
theorem packwindows_walk (A : Option Addr) (c : Nat) (b : List UInt8) (hc : b.length ≤ c ∧ c ≤ 9223372036854775807) (one other : Int) (w : World) (hr : Rd w (.slice A b.length c) (bytesU b)) :
    Calls Try.prog 7 #[.slice A b.length c, .int .i64 one, .int .i64 other] w (TrueB w) := by
  have hb0 := Below.refl w.heap.size w
  by_cases hbig : (1000 : Int) < (b.length : Int)
  · clear hr
    generalize b.length = L at *
    go_enter Try.func7, Try.ntmps7
    go_wp2_with fail
    refine (awake_any _).mono ?_
    rintro e wz ⟨rfl, bz⟩
    go_wp2
    go_ret
    exact ⟨rfl, bz⟩
  have Hr := Lib.hid (fun w1 (h : Below w.heap.size w w1) => hr.below h)
  by_cases hw1 : one < 1 ∨ 32768 < one
  · have HP := Lib.hid (pack_any A c b hc one w hr)
    have HP2 := Lib.hid (fun w1 (h : Below w.heap.size w w1) => pack_any A c b hc other w1 (hr.below h))
    rw [show packN b one = ([], 1) by unfold packN; rw [if_pos hw1]] at HP
    generalize packN b other = y2 at *
    clear hr Hr
    go_enter Try.func7, Try.ntmps7
    go_wp2_with fail
    refine HP.out.mono ?_
    rintro e w1 ⟨A1, c1, rfl, r1, g1, b1⟩
    have HQ := Lib.hid (HP2.out w1 b1)
    clear HP HP2 r1
    go_wp2_with fail
    refine HQ.out.mono ?_
    rintro e w2 ⟨A2, c2, rfl, r2, g2, b2⟩
    have hb2 := b1.trans (b2.mono b1.size)
    clear HQ r2
    go_wp2_with fail
    refine (awake_any _).mono ?_
    rintro e wz ⟨rfl, bz⟩
    go_wp2
    go_ret
    exact ⟨rfl, hb2.trans (bz.mono hb2.size)⟩
  by_cases hw2 : other < 1 ∨ 32768 < other
  · have HP := Lib.hid (fun w1 (h : Below w.heap.size w w1) => pack_any A c b hc other w1 (hr.below h))
    rw [show packN b other = ([], 1) by unfold packN; rw [if_pos hw2]] at HP
    have hp0 : (packN b one).2 = 0 := by unfold packN; rw [if_neg (by omega), if_neg (by omega)]
    have HA1 := Lib.hid (unpack_pack b one (by omega) (by omega) (by omega))
    have HP1 := Lib.hid (fun w1 (h : Below w.heap.size w w1) => pack_any A c b hc one w1 (hr.below h))
    have HL1 := Lib.hid (packN_len b one (Nat.le_trans (parseN_le b one) (by omega)))
    generalize packN b one = y1 at *
    obtain ⟨y1, z1⟩ := y1
    simp only at hp0
    subst hp0
    clear hr Hr HL1 HA1
    go_enter Try.func7, Try.ntmps7
    go_wp2_with fail
    refine (HP1.out w hb0).mono ?_
    rintro e w1 ⟨A1, c1, rfl, r1, g1, b1⟩
    have HQ := Lib.hid (HP.out w1 b1)
    clear HP1 HP r1
    go_wp2_with fail
    refine HQ.out.mono ?_
    rintro e w2 ⟨A2, c2, rfl, r2, g2, b2⟩
    have hb2 := b1.trans (b2.mono b1.size)
    clear HQ r2
    go_wp2_with fail
    refine (awake_any _).mono ?_
    rintro e wz ⟨rfl, bz⟩
    go_wp2
    go_ret
    exact ⟨rfl, hb2.trans (bz.mono hb2.size)⟩
  have hp0 : (packN b one).2 = 0 := by unfold packN; rw [if_neg (by omega), if_neg (by omega)]
  have HA1 := Lib.hid (unpack_pack b one (by omega) (by omega) (by omega))
  have HP1 := Lib.hid (fun w1 (h : Below w.heap.size w w1) => pack_any A c b hc one w1 (hr.below h))
  have HL1 := Lib.hid (packN_len b one (Nat.le_trans (parseN_le b one) (by omega)))
  generalize packN b one = y1 at *
  obtain ⟨y1, z1⟩ := y1
  simp only at hp0
  subst hp0
  have hp0 : (packN b other).2 = 0 := by unfold packN; rw [if_neg (by omega), if_neg (by omega)]
  have HA2 := Lib.hid (unpack_pack b other (by omega) (by omega) (by omega))
  have HP2 := Lib.hid (fun w1 (h : Below w.heap.size w w1) => pack_any A c b hc other w1 (hr.below h))
  have HL2 := Lib.hid (packN_len b other (Nat.le_trans (parseN_le b other) (by omega)))
  generalize packN b other = y2 at *
  obtain ⟨y2, z2⟩ := y2
  simp only at hp0
  subst hp0
  clear hr
  go_enter Try.func7, Try.ntmps7
  go_wp2_with fail
  refine (HP1.out w hb0).mono ?_
  rintro e w1 ⟨A1, c1, rfl, r1, g1, b1⟩
  have HQ := Lib.hid (HP2.out w1 b1)
  have R1 := Lib.hid (fun w2 (b2 : Below w1.heap.size w1 w2) => r1.below b2)
  clear HP1 HP2 r1
  go_wp2_with fail
  refine HQ.out.mono ?_
  rintro e w2 ⟨A2, c2, rfl, r2, g2, b2⟩
  have hb2 := b1.trans (b2.mono b1.size)
  have HU := Lib.hid (unpack_any A1 c1 y1 HL1.out g1 w2 (R1.out w2 b2))
  have R2 := Lib.hid (fun w3 (b3 : Below w2.heap.size w2 w3) => r2.below b3)
  rw [HA1.out] at HU
  clear HQ r2 R1 b2
  go_wp2_with fail
  refine HU.out.mono ?_
  rintro e w3 ⟨A3, c3, rfl, r3, g3, b3⟩
  have hb3 := hb2.trans (b3.mono hb2.size)
  have HV := Lib.hid (unpack_any A2 c2 y2 HL2.out g2 w3 (R2.out w3 b3))
  have R3 := Lib.hid (fun w4 (b4 : Below w3.heap.size w3 w4) => r3.below b4)
  rw [HA2.out] at HV
  clear HU r3 R2 b3
  go_wp2_with fail
  refine HV.out.mono ?_
  rintro e w4 ⟨A4, c4, rfl, r4, g4, b4⟩
  have hb4 := hb3.trans (b4.mono hb3.size)
  have s1 : (convert 22 9 (.slice A3 b.length c3)).run Try.prog w4 = .ok (.string (strU b)) w4 := str_of_u (R3.out w4 b4)
  have s2 : (convert 22 9 (.slice A b.length c)).run Try.prog w4 = .ok (.string (strU b)) w4 := str_of_u (Hr.out w4 hb4)
  have s3 : (convert 22 9 (.slice A4 b.length c4)).run Try.prog w4 = .ok (.string (strU b)) w4 := str_of_u r4
  have heq : ((strU b).toList == (strU b).toList) = true := by simp
  clear HV r4 R3 b4 Hr
  go_wp2_with fail
  refine (awake_any _).mono ?_
  rintro e wz ⟨rfl, bz⟩
  go_wp2
  go_ret
  exact ⟨rfl, hb4.trans (bz.mono hb4.size)⟩
end Go.Proofs.Ytedcficjmogohaa

/- How many bytes packed bytes are, at most: plain. -/
namespace Go.Proofs.Ytedcficjmogohaa
set_option linter.unusedVariables false
set_option linter.unusedSimpArgs false
set_option maxRecDepth 100000

/-- So many bits cost no more than a factor 67 of width each. -/
def Co (s : WS) (k : Nat) : Prop := 4294967295 * 256 ^ (rOf s).out.length ≤ (rOf s).width * 67 ^ k
theorem p67 : ∀ n : Nat, (1 : Int) ≤ 67 ^ n
  | 0 => by rw [Int.pow_zero]; omega
  | n + 1 => by rw [Int.pow_succ]; have := p67 n; omega
theorem Co.more1 {s : WS} {k : Nat} (h : Co s k) (h0 : 0 ≤ (rOf s).width) : Co s (k + 1) := by
  unfold Co at *
  rw [Int.pow_succ, ← Int.mul_assoc]
  have := Int.mul_nonneg h0 (Int.le_trans (by omega) (p67 k))
  omega
theorem Co.more {s : WS} {k : Nat} (h : Co s k) (h0 : 0 ≤ (rOf s).width) : ∀ j, Co s (k + j)
  | 0 => h
  | j + 1 => (Co.more h h0 j).more1 h0
theorem co_put {s : WS} {b : Int} (bit : Int) {room : Int} {k : Nat} (hr : 0 ≤ room) (g : s.gd (room + 1)) (b0 : 65536 ≤ b) (b1 : b + 65536 ≤ s.width) (c0 : s.width ≤ 67 * b) (c1 : s.width ≤ 67 * (s.width - b)) (h : Co s k) : Co (putS s b bit) (k + 1) := by
  have e := (putS_gd bit hr g b0 b1).2
  unfold Co at *
  rw [e]
  have hw : (rOf s).width = s.width := rfl
  obtain ⟨m1, m2, m3⟩ := mid_parts bit g.good b0 b1
  have hf := (rput1_facts bit g.good.ok b0 b1).1.low0
  obtain ⟨n1, n2⟩ := norm_parts hf
  have hmid : (rOf s).width ≤ 67 * (rcarry (rput1 (rOf s) b bit)).width := by rw [m2]; split <;> omega
  have hp := p67 k
  have h2 : (rOf s).width * 67 ^ k ≤ (rcarry (rput1 (rOf s) b bit)).width * 67 ^ (k + 1) := by
    rw [Int.pow_succ]
    have := Int.mul_le_mul_of_nonneg_right hmid (show (0 : Int) ≤ 67 ^ k by omega)
    rw [Int.mul_comm (67 ^ k) 67, ← Int.mul_assoc, Int.mul_comm _ 67]
    exact this
  have h3 := Int.le_trans h h2
  unfold rput
  by_cases hs : (rcarry (rput1 (rOf s) b bit)).width < 16777216
  · obtain ⟨x1, x2, x3⟩ := n1 hs
    rw [x2, x3, m3, Int.pow_succ]
    have := Int.mul_le_mul_of_nonneg_right h3 (show (0 : Int) ≤ 256 by omega)
    rw [Int.mul_assoc] at this
    rw [show (rcarry (rput1 (rOf s) b bit)).width * 256 * 67 ^ (k + 1) = (rcarry (rput1 (rOf s) b bit)).width * 67 ^ (k + 1) * 256 by rw [Int.mul_assoc, Int.mul_comm 256, Int.mul_assoc]]
    exact this
  · rw [n2 hs, m3]
    exact h3
theorem cost_bound {s : WS} {n : Int} {room : Int} (h : s.live room) (hn : -993 ≤ n ∧ n ≤ 993) : s.width ≤ 67 * bitBound s n ∧ s.width ≤ 67 * (s.width - bitBound s n) := by
  have hw := h.wide
  unfold bitBound
  generalize hq : s.width / 2048 = q
  have q0 : 8192 ≤ q := by omega
  have h1 := Int.mul_le_mul_of_nonneg_left (show 31 ≤ n + 1024 by omega) (show 0 ≤ q by omega)
  have h2 := Int.mul_le_mul_of_nonneg_left (show n + 1024 ≤ 2017 by omega) (show 0 ≤ q by omega)
  generalize q * (n + 1024) = x at *
  omega
theorem co_even : ∀ (l : List Int) (s : WS) (room : Int) (k : Nat), 0 ≤ room → s.gd (room + l.length) → Co s k → Co (evenS s l) (k + l.length)
  | [], s, room, k, _, _, h => h
  | b :: l, s, room, k, hr, g, h => by
    have e : room + ((b :: l).length : Int) = (room + l.length) + 1 := by simp; omega
    rw [e] at g
    have hw := g.live.wide
    have ih := co_even l _ room (k + 1) hr (putS_gd b (by omega) g (ev_in g).1 (ev_in g).2).1 (co_put b (by omega) g (ev_in g).1 (ev_in g).2 (by omega) (by omega) h)
    rw [List.length_cons, show k + (l.length + 1) = k + 1 + l.length by omega]
    exact ih
theorem co_tree : ∀ (l : List Int) (s : WS) (cl : List Int) (a : Nat) (room : Int) (k : Nat), 0 ≤ room → chOk cl → s.gd (room + l.length) → Co s k → Co (treeS s cl a l).1 (k + l.length)
  | [], s, cl, a, room, k, _, _, _, h => h
  | b :: l, s, cl, a, room, k, hr, hc, g, h => by
    have e : room + ((b :: l).length : Int) = (room + l.length) + 1 := by simp; omega
    rw [e] at g
    have hb := bitBound_in g.live (chOk_get hc a)
    have hcb := cost_bound g.live (chOk_get hc a)
    have h2 : chOk (cl.set a (sawN (cl.getD a 0) b)) := chOk_set hc _ _ (sawN_ok _ _ (chOk_get hc a))
    have ih := co_tree l _ (cl.set a (sawN (cl.getD a 0) b)) (2 * a + b.toNat) room (k + 1) hr h2 (putS_gd b (by omega) g hb.1 hb.2).1 (co_put b (by omega) g hb.1 hb.2 hcb.1 hcb.2 h)
    rw [List.length_cons, show k + (l.length + 1) = k + 1 + l.length by omega]
    exact ih
theorem gd_width {s : WS} {room : Int} (g : s.gd room) : 0 ≤ (rOf s).width := by have := g.live.wide; show 0 ≤ s.width; omega
theorem co_bit {s : WS} {m : MS} {room : Int} {k : Nat} (b : Int) (hr : 0 ≤ room) (hm : m.ok) (g : s.gd (room + 1)) (h : Co s k) : Co (bitM s m b) (k + 1) := by
  have hk := chOk_get hm.ckinds m.kind
  have hb := bitBound_in g.live hk
  have hc := cost_bound g.live hk
  exact co_put b hr g hb.1 hb.2 hc.1 hc.2 h
theorem co_lit {s : WS} {m : MS} {room : Int} {k : Nat} (lit : UInt8) (hr : 0 ≤ room) (hm : m.ok) (g : s.gd (room + 9)) (h : Co s k) : Co (putLit s m lit).1 (k + 9) := by
  have h1 := bitM_gd (s := s) 0 (room := room + 8) (by omega) hm (g.less (by omega))
  have c1 := co_bit 0 (room := room + 8) (by omega) hm (g.less (by omega)) h
  have := co_tree (bitsOf lit.toNat 8) (bitM s m 0) (m.lits (treeIx m.out)) 1 room (k + 1) hr (hm.clits _) (h1.1.less (by rw [bitsOf_len']; omega)) c1
  rw [bitsOf_len'] at this
  exact this
theorem co_match {s : WS} {m : MS} {room : Int} {k : Nat} (n bk : Nat) (hbk : 1 ≤ bk ∧ bk ≤ 32768) (hr : 0 ≤ room) (hm : m.ok) (g : s.gd (room + 28)) (h : Co s k) : Co (putMatch s m n bk).1 (k + 27) := by
  have hl := lenN_15 (bk - 1) (by omega)
  have b1 := backM_ok (s := s) n bk (room := room + 15) (by omega) hm (g.less (by omega))
  have l1 := lenM_ok (s := s) n (room := room + 19) (by omega) hm (g.less (by omega))
  have h1 := bitM_gd (s := s) 1 (room := room + 27) (by omega) hm (g.less (by omega))
  have c1 := co_bit 1 (room := room + 27) (by omega) hm (g.less (by omega)) h
  have c2 := co_tree (bitsOf ((n : Int) - 3) 8) (bitM s m 1) m.lens 1 (room + 19) (k + 1) (by omega) hm.clens (h1.1.less (by rw [bitsOf_len']; omega)) c1
  rw [bitsOf_len'] at c2
  have c3 := co_tree (bitsOf (lenN (bk - 1)) 4) (lenM s m n).1 m.backs 1 (room + 15) (k + 1 + 8) (by omega) hm.cbacks (l1.1.less (by rw [bitsOf_len']; omega)) c2
  rw [bitsOf_len'] at c3
  have c4 := co_even (bitsOf ((bk : Int) - 1) (lenN (bk - 1) - 1)) (backM s m n bk).1 room (k + 1 + 8 + 4) hr (b1.1.less (by rw [bitsOf_len']; omega)) c3
  rw [bitsOf_len'] at c4
  have gz := (putMatch_ok (s := s) (m := m) n bk hbk hr hm g).1
  have := Co.more c4 (gd_width gz) (27 - (1 + 8 + 4 + (lenN (bk - 1) - 1)))
  rw [show k + 1 + 8 + 4 + (lenN (bk - 1) - 1) + (27 - (1 + 8 + 4 + (lenN (bk - 1) - 1))) = k + 27 by omega] at this
  exact this
theorem co_putT {s : WS} {m : MS} {room : Int} {k : Nat} {t : Tk} (ht : rightP t) (hr : 0 ≤ room) (hm : m.ok) (g : s.gd (room + 28)) (h : Co s k) : Co (putT s m t).1 (k + 9 * (maxT t).toNat) := by
  have gz := (putT_ok ht hr hm g).1
  unfold putT at gz ⊢
  rcases ht with ⟨h1, h2⟩ | ⟨h1, h2, h3, h4, h5⟩
  · have hmx : maxT t = 1 := by unfold maxT; rw [if_pos (by omega)]
    rw [if_pos h1, hmx]
    exact co_lit t.lit hr hm (g.less (by omega)) h
  · have hmx : maxT t = t.len := by unfold maxT; rw [if_neg (by omega)]
    rw [if_neg (by omega)] at gz ⊢
    have := Co.more (co_match t.len.toNat t.back.toNat (by omega) hr hm g h) (gd_width gz) (9 * (t.len.toNat - 3))
    rw [hmx, show k + 9 * t.len.toNat = k + 27 + 9 * (t.len.toNat - 3) by omega]
    exact this
theorem wr_out : ∀ (l : List Tk) (x : WS × MS) (n : Int) (b : List UInt8), n ≤ 65536 → expT n l x.2.out = some b → (l.foldl wrT x).2.out = b
  | [], x, n, b, _, h => by injection h
  | t :: l, x, n, b, hn, h => by
    rw [expT] at h
    by_cases hf : fitsP x.2.out t n
    · rw [if_pos hf] at h
      have hw : wrT x t = ((putT x.1 x.2 t).1, sawM (putT x.1 x.2 t).2 t) := by unfold wrT; rw [if_pos (fitsP_more hf hn)]
      rw [List.foldl_cons]
      refine wr_out l (wrT x t) n b hn ?_
      rw [hw]
      show expT n l (sawT (putT x.1 x.2 t).2.out t) = some b
      rw [putT_out]
      exact h
    · rw [if_neg hf] at h
      cases h
theorem wr_co : ∀ (l : List Tk) (x : WS × MS) (room : Int), 0 ≤ room → x.2.ok → x.1.gd (room + 28 * (l.length : Int)) → Co x.1 (9 * x.2.out.length) → Co (l.foldl wrT x).1 (9 * (l.foldl wrT x).2.out.length)
  | [], x, room, _, _, _, h => h
  | t :: l, x, room, hr, hm, g, h => by
    have g1 : x.1.gd (room + 28 * (l.length : Int) + 28) := g.less (by rw [List.length_cons]; omega)
    have hk := wrT_ok (t := t) (x := x) (room := room + 28 * (l.length : Int)) (by omega) g1 hm
    refine wr_co l (wrT x t) room hr hk.2 hk.1 ?_
    unfold wrT
    split
    · rename_i hf
      have c := co_putT hf.1 (room := room + 28 * (l.length : Int)) (by omega) hm g1 h
      have hs := sawT_len (putT x.1 x.2 t).2.out t hf.1
      rw [putT_out] at hs
      have hmx := maxT_ge t
      show Co (putT x.1 x.2 t).1 (9 * (sawT (putT x.1 x.2 t).2.out t).length)
      rw [putT_out]
      rw [show 9 * (sawT x.2.out t).length = 9 * x.2.out.length + 9 * (maxT t).toNat by omega]
      exact c
    · exact h
theorem pow_cost (n out : Nat) (h : 256 ^ out ≤ 67 ^ (9 * n)) : out ≤ 7 * n := by
  by_cases hc : out ≤ 7 * n
  · exact hc
  · have h1 : (256 : Nat) ^ (7 * n) < 256 ^ out := Nat.pow_lt_pow_right (by omega) (by omega)
    have h2 : (67 : Nat) ^ (9 * n) ≤ 256 ^ (7 * n) := by
      rw [Nat.pow_mul, Nat.pow_mul]
      exact Nat.pow_le_pow_left (by decide) n
    omega
theorem writeN_bound (l : List Tk) (b : List UInt8) (hl : l.length ≤ 4294967296) (he : expT 65536 l [] = some b) : (writeN l).length ≤ 7 * b.length + 4 ∧ 4 ≤ (writeN l).length := by
  obtain ⟨h1, h2⟩ := writeN_rend l hl
  have hg := wrN_gd l 1000 (by omega) (by omega)
  have ho : (wrN l).2.out = b := wr_out l (begin0, ms0) 65536 b (by omega) he
  have hc : Co (wrN l).1 (9 * (wrN l).2.out.length) := wr_co l (begin0, ms0) 1000 (by omega) ms0_ok (begin0_gd _ (by omega) (by omega)) (show (4294967295 : Int) * 256 ^ 0 ≤ 4294967295 * 67 ^ 0 by decide)
  rw [ho] at hc
  have hlen : (writeN l).length = (rOf (wrN l).1).out.length + 4 := by rw [h1]; simp [rend]
  rw [hlen]
  refine ⟨?_, by omega⟩
  have hw1 := h2.width1
  unfold Co at hc
  have hp := p67 (9 * b.length)
  have h3 := Int.le_trans hc (Int.mul_le_mul_of_nonneg_right (show (rOf (wrN l).1).width ≤ 4294967295 by omega) (show (0 : Int) ≤ 67 ^ (9 * b.length) by omega))
  have h4 : (256 : Int) ^ (rOf (wrN l).1).out.length ≤ 67 ^ (9 * b.length) := Int.le_of_mul_le_mul_left h3 (by omega)
  have h5 : 256 ^ (rOf (wrN l).1).out.length ≤ 67 ^ (9 * b.length) := by
    have e1 : ((256 ^ (rOf (wrN l).1).out.length : Nat) : Int) = (256 : Int) ^ (rOf (wrN l).1).out.length := by simp
    have e2 : ((67 ^ (9 * b.length) : Nat) : Int) = (67 : Int) ^ (9 * b.length) := by simp
    rw [← e1, ← e2] at h4
    exact Int.ofNat_le.1 h4
  have := pow_cost b.length _ h5
  omega
theorem pack_bound (b : List UInt8) (win : Int) (hb : b.length ≤ 2000) (h1 : 1 ≤ win) (h2 : win ≤ 32768) : (packN b win).1.length ≤ 8 * b.length + 10 ∧ 5 ≤ (packN b win).1.length := by
  have hp : packN b win = (onum b.length ++ writeU (parseN b win), 0) := by unfold packN; rw [if_neg (by omega), if_neg (by omega), onumI_nat _ (by omega)]
  have hl := parseN_le b win
  have hw := writeN_bound (parseN b win) b (by omega) (parse_exp b win h1 h2 65536 (by omega))
  have hu : (writeU (parseN b win)).length = (writeN (parseN b win)).length := u8L_length _
  have o1 := onum_pos b.length
  have o2 := onum_len 1 b.length (by omega)
  rw [hp]
  simp only [List.length_append]
  omega
end Go.Proofs.Ytedcficjmogohaa

/- Packed bytes that were cut, or that others stand behind: plain. -/
namespace Go.Proofs.Ytedcficjmogohaa
set_option linter.unusedVariables false
set_option linter.unusedSimpArgs false
set_option maxRecDepth 100000

/-- A reader that has other bytes behind. -/
def ext (q : RS) (z : List Int) : RS := { q with rem := q.rem ++ z }
theorem next_ext {q : RS} (z : List Int) (h : (nextS q).e = 0) : q.e = 0 ∧ nextS (ext q z) = ext (nextS q) z := by
  obtain ⟨rem, n, width, e⟩ := q
  cases rem with
  | nil => exact absurd h (by show ¬ (2 : Int) = 0; omega)
  | cons c l => exact ⟨h, rfl⟩
theorem takeT_ext (q : RS) (b : Int) (z : List Int) : takeT (ext q z) b = ext (takeT q b) z ∧ (takeT q b).e = q.e := by
  unfold takeT
  show (if q.n < b then _ else _) = _ ∧ _
  split <;> exact ⟨rfl, rfl⟩
theorem take_ext {q : RS} {b : Int} (z : List Int) (h : (takeS q b).e = 0) : q.e = 0 ∧ takeS (ext q z) b = ext (takeS q b) z ∧ takeBit (ext q z) b = takeBit q b := by
  obtain ⟨h1, h2⟩ := takeT_ext q b z
  unfold takeS at *
  have hw : (takeT (ext q z) b).width = (takeT q b).width := by rw [h1]; rfl
  rw [hw]
  split
  · rename_i hs
    rw [if_pos hs] at h
    unfold tkN at *
    rw [h1]
    have := next_ext z h
    exact ⟨h2 ▸ this.1, this.2, rfl⟩
  · rename_i hs
    rw [if_neg hs] at h
    exact ⟨h2 ▸ h, h1, rfl⟩
theorem tree_ext (z : List Int) : ∀ (k : Nat) (q : RS) (cl : List Int) (a : Nat), (rTree k q cl a).2.1.e = 0 → q.e = 0 ∧ rTree k (ext q z) cl a = ((rTree k q cl a).1, ext (rTree k q cl a).2.1 z, (rTree k q cl a).2.2)
  | 0, q, cl, a, h => ⟨h, rfl⟩
  | k + 1, q, cl, a, h => by
    obtain ⟨h1, h2⟩ := tree_ext z k _ _ _ h
    obtain ⟨k1, k2, k3⟩ := take_ext z h1
    refine ⟨k1, ?_⟩
    rw [rTree, show rBound (ext q z) (cl.getD a 0) = rBound q (cl.getD a 0) from rfl, k2, k3, h2]
    rfl
theorem even_ext (z : List Int) : ∀ (k : Nat) (q : RS) (a : Nat), (rEven k q a).2.e = 0 → q.e = 0 ∧ rEven k (ext q z) a = ((rEven k q a).1, ext (rEven k q a).2 z)
  | 0, q, a, h => ⟨h, rfl⟩
  | k + 1, q, a, h => by
    obtain ⟨h1, h2⟩ := even_ext z k _ _ h
    obtain ⟨k1, k2, k3⟩ := take_ext z h1
    refine ⟨k1, ?_⟩
    rw [rEven, show (ext q z).width = q.width from rfl, k2, k3, h2]
    rfl
theorem tk_ext {q : RS} {m : MS} (z : List Int) (h : (tkS q m).e = 0) : q.e = 0 ∧ tkS (ext q z) m = ext (tkS q m) z ∧ tkBit (ext q z) m = tkBit q m := take_ext z h
theorem lit_ext {q : RS} {m : MS} (z : List Int) (h : (takeLit q m).2.1.e = 0) : q.e = 0 ∧ tkBit (ext q z) m = tkBit q m ∧ takeLit (ext q z) m = ((takeLit q m).1, ext (takeLit q m).2.1 z, (takeLit q m).2.2) := by
  have h0 : (rTree 8 (tkS q m) (m.lits (treeIx m.out)) 1).2.1.e = 0 := h
  obtain ⟨h1, h2⟩ := tree_ext z 8 _ _ _ h0
  obtain ⟨k1, k2, k3⟩ := tk_ext z h1
  have e : rLit (ext q z) m = ((rLit q m).1, ext (rLit q m).2.1 z, (rLit q m).2.2) := by unfold rLit; rw [k2]; exact h2
  refine ⟨k1, k3, ?_⟩
  unfold takeLit
  rw [e, k3]
theorem match_ext {q : RS} {m : MS} (z : List Int) (h : (takeMatch q m).2.1.e = 0) : q.e = 0 ∧ tkBit (ext q z) m = tkBit q m ∧ takeMatch (ext q z) m = ((takeMatch q m).1, ext (takeMatch q m).2.1 z, (takeMatch q m).2.2) := by
  have h0 : (rLow q m).2.e = 0 := h
  have hb : (rBack q m).2.1.e = 0 ∧ (rBack (ext q z) m = ((rBack q m).1, ext (rBack q m).2.1 z, (rBack q m).2.2) → rLow (ext q z) m = ((rLow q m).1, ext (rLow q m).2 z)) := by
    unfold rLow at *
    by_cases hn : rN q m = 0
    · rw [if_pos hn] at h0
      refine ⟨h0, fun hk => ?_⟩
      have hn2 : rN (ext q z) m = 0 := by unfold rN at *; rw [hk]; exact hn
      rw [if_pos hn2, if_pos hn, hk]
    · rw [if_neg hn] at h0
      obtain ⟨h1, h2⟩ := even_ext z _ _ _ h0
      refine ⟨h1, fun hk => ?_⟩
      have hn2 : rN (ext q z) m = rN q m := by unfold rN at *; rw [hk]
      rw [hn2, if_neg hn, if_neg hn, hk]
      exact h2
  have h1 : (rTree 4 (rLen q m).2.1 m.backs 1).2.1.e = 0 := hb.1
  obtain ⟨h2, h3⟩ := tree_ext z 4 _ _ _ h1
  have h4 : (rTree 8 (tkS q m) m.lens 1).2.1.e = 0 := h2
  obtain ⟨h5, h6⟩ := tree_ext z 8 _ _ _ h4
  obtain ⟨k1, k2, k3⟩ := tk_ext z h5
  have e1 : rLen (ext q z) m = ((rLen q m).1, ext (rLen q m).2.1 z, (rLen q m).2.2) := by unfold rLen; rw [k2]; exact h6
  have e2 : rBack (ext q z) m = ((rBack q m).1, ext (rBack q m).2.1 z, (rBack q m).2.2) := by unfold rBack; rw [e1]; exact h3
  have e3 := hb.2 e2
  have e4 : rN (ext q z) m = rN q m := by unfold rN; rw [e2]
  refine ⟨k1, k3, ?_⟩
  unfold takeMatch
  rw [e1, e2, e3, e4, k3]
theorem takeM_ext {q : RS} {m : MS} (z : List Int) (h : (takeM q m).2.1.e = 0) : q.e = 0 ∧ takeM (ext q z) m = ((takeM q m).1, ext (takeM q m).2.1 z, (takeM q m).2.2) := by
  unfold takeM at *
  by_cases hb : tkBit q m = 0
  · rw [if_pos hb] at h
    obtain ⟨h1, h2, h3⟩ := lit_ext z h
    rw [h2, if_pos hb, if_pos hb, h3]
    exact ⟨h1, rfl⟩
  · rw [if_neg hb] at h
    obtain ⟨h1, h2, h3⟩ := match_ext z h
    rw [h2, if_neg hb, if_neg hb, h3]
    exact ⟨h1, rfl⟩
theorem rdN_ext (z : List Int) (n : Nat) : ∀ (k : Nat) (q : RS) (m : MS) (acc l : List Tk) (q' : RS) (m' : MS), rdN n k q m acc = some (l, q', m') → q'.e = 0 → q.e = 0 ∧ rdN n k (ext q z) m acc = some (l, ext q' z, m')
  | 0, q, m, acc, l, q', m', h, _ => by cases h
  | k + 1, q, m, acc, l, q', m', h, he => by
    rw [rdN] at h
    by_cases hlt : m.out.length < n
    · rw [if_pos hlt] at h
      by_cases hf : fitsP (takeM q m).2.2.out (takeM q m).1 n
      · rw [if_pos hf] at h
        obtain ⟨h1, h2⟩ := rdN_ext z n k _ _ _ _ _ _ h he
        obtain ⟨h3, h4⟩ := takeM_ext z h1
        refine ⟨h3, ?_⟩
        rw [rdN, if_pos hlt, h4, if_pos hf, h2]
      · rw [if_neg hf] at h; cases h
    · rw [if_neg hlt] at h
      injection h with h
      injection h with h1 h2
      injection h2 with h2 h3
      subst h1; subst h2; subst h3
      exact ⟨he, by rw [rdN, if_neg hlt]⟩
theorem nextN_ext (z : List Int) : ∀ (k : Nat) (q : RS), (nextN k q).e = 0 → q.e = 0 ∧ nextN k (ext q z) = ext (nextN k q) z
  | 0, q, h => ⟨h, rfl⟩
  | k + 1, q, h => by
    obtain ⟨h1, h2⟩ := nextN_ext z k _ h
    obtain ⟨h3, h4⟩ := next_ext z h1
    exact ⟨h3, by rw [nextN, h4]; exact h2⟩
theorem open_ext (l z : List Int) (h : (openS l).e = 0) : openS (l ++ z) = ext (openS l) z := (nextN_ext z 4 (open0 l) h).2

theorem read_ext {x z : List Int} {n : Int} {l : List Tk} {b : List UInt8} (hz : z ≠ []) (h : readN x n = (l, b, 0)) : readN (x ++ z) n = ([], [], 5) := by
  unfold readN at *
  by_cases hr : n < 0 ∨ 65536 < n
  · rw [if_pos hr] at h
    injection h with _ h; injection h with _ h; cases h
  rw [if_neg hr] at h ⊢
  cases hd : rdN n.toNat (n.toNat + 1) (openS x) ms0 [] with
  | none =>
    rw [hd] at h
    injection h with _ h; injection h with _ h; cases h
  | some r =>
    obtain ⟨l', q', m'⟩ := r
    rw [hd] at h
    simp only at h
    by_cases he : q'.e = 0
    · rw [if_pos he] at h
      obtain ⟨h1, h2⟩ := rdN_ext z _ _ _ _ _ _ _ _ hd he
      rw [open_ext x z h1, h2]
      simp only
      rw [if_pos (show (ext q' z).e = 0 from he), if_neg]
      intro hn
      exact hz (List.append_eq_nil_iff.1 hn).2
    · rw [if_neg he] at h
      injection h with _ h; injection h with _ h; exact absurd h he
theorem read_err {x : List Int} {n : Int} (h : (readN x n).2.2 ≠ 0) : (readN x n).1 = [] ∧ (readN x n).2.1 = [] := by
  unfold readN at *
  split
  · exact ⟨rfl, rfl⟩
  rename_i hr
  rw [if_neg hr] at h
  split
  · exact ⟨rfl, rfl⟩
  · rename_i l q m hd
    rw [hd] at h
    simp only at h
    split
    · rename_i he
      rw [if_pos he] at h
      split
      · rename_i hrem
        rw [if_pos hrem] at h
        exact absurd rfl h
      · exact ⟨rfl, rfl⟩
    · exact ⟨rfl, rfl⟩
theorem unpack_err {x : List UInt8} (h : (unpackN x).2 ≠ 0) : (unpackN x).1 = [] := by
  unfold unpackN at *
  split
  · rfl
  · rename_i he
    rw [if_neg he] at h
    exact (read_err h).2
/-- What is cut off is missed. -/
theorem read_cut {x z : List Int} {n : Int} {l : List Tk} {b : List UInt8} (hz : z ≠ []) (h : readN (x ++ z) n = (l, b, 0)) : (readN x n).2.2 ≠ 0 := by
  intro h0
  have := read_ext (x := x) (z := z) (n := n) (l := (readN x n).1) (b := (readN x n).2.1) hz (by rw [← h0])
  rw [h] at this
  injection this with _ h; injection h with _ h; cases h
theorem endN_take : ∀ (l : List UInt8) (k c : Nat), endN l = some k → c ≤ k → endN (l.take c) = none
  | [], k, c, h, _ => by cases h
  | x :: l, k, 0, h, _ => rfl
  | x :: l, k, c + 1, h, hc => by
    rw [endN] at h
    by_cases hx : x.toNat < 128
    · rw [if_pos hx] at h
      injection h with h
      omega
    · rw [if_neg hx] at h
      obtain ⟨j, hj, rfl⟩ := Option.map_eq_some_iff.1 h
      rw [List.take_succ_cons, endN, if_neg hx, endN_take l j c hj (by omega)]
      rfl

section
variable (b : List UInt8) (win : Int) (h1 : 1 ≤ win) (h2 : win ≤ 32768) (hb : b.length ≤ 65536)
include h1 h2 hb
theorem pack_eq : packN b win = (onum b.length ++ writeU (parseN b win), 0) ∧ ints (writeU (parseN b win)) = writeN (parseN b win) ∧ readN (writeN (parseN b win)) b.length = (parseN b win, b, 0) := by
  have hl := parseN_le b win
  exact ⟨by unfold packN; rw [if_neg (by omega), if_neg (by omega), onumI_nat _ (by omega)], writeU_ints _ (by omega), read_write _ b hb (parse_exp b win h1 h2 _ (Int.le_refl _))⟩
theorem unpack_more (more : List UInt8) (hm : more ≠ []) : unpackN ((packN b win).1 ++ more) = ([], 5) := by
  obtain ⟨e1, e2, e3⟩ := pack_eq b win h1 h2 hb
  have hr : readNum ⟨onum b.length ++ (writeU (parseN b win) ++ more), 0⟩ 65536 = ((b.length : Int), ⟨writeU (parseN b win) ++ more, 0⟩) := readNum_onum (by omega) 65536 (by omega) _
  rw [e1]
  unfold unpackN
  simp only [List.append_assoc]
  rw [hr]
  simp only
  rw [if_neg (by simp), ints_append, e2, read_ext (by simpa [ints] using hm) e3]
theorem unpack_cut (cut : Nat) (hc : cut < (packN b win).1.length) : (unpackN ((packN b win).1.take cut)).2 ≠ 0 := by
  obtain ⟨e1, e2, e3⟩ := pack_eq b win h1 h2 hb
  rw [e1] at hc ⊢
  simp only [List.length_append] at hc ⊢
  have hpos := onum_pos b.length
  by_cases hlt : cut < (onum b.length).length
  · have hen : endN ((onum b.length).take cut) = none := by
      have := endN_onum [] b.length
      rw [List.append_nil] at this
      exact endN_take _ _ _ this (by omega)
    have ht : (onum b.length ++ writeU (parseN b win)).take cut = (onum b.length).take cut := List.take_append_of_le_length (by omega)
    rw [ht]
    have hne : (readNum ⟨(onum b.length).take cut, 0⟩ 65536).2.err ≠ 0 := by
      unfold readNum
      rw [if_neg (by simp)]
      simp only [hen]
      split <;> simp
    unfold unpackN
    rw [if_pos hne]
    exact hne
  · have ht : (onum b.length ++ writeU (parseN b win)).take cut = onum b.length ++ (writeU (parseN b win)).take (cut - (onum b.length).length) := by
      rw [List.take_append, List.take_of_length_le (by omega)]
    have hr : readNum ⟨onum b.length ++ (writeU (parseN b win)).take (cut - (onum b.length).length), 0⟩ 65536 = ((b.length : Int), ⟨(writeU (parseN b win)).take (cut - (onum b.length).length), 0⟩) := readNum_onum (by omega) 65536 (by omega) _
    rw [ht]
    unfold unpackN
    rw [hr]
    simp only
    rw [if_neg (by simp)]
    refine read_cut (z := ints ((writeU (parseN b win)).drop (cut - (onum b.length).length))) (l := parseN b win) (b := b) ?_ ?_
    · intro h
      have := congrArg List.length h
      rw [ints_length, List.length_drop] at this
      simp at this
      omega
    · rw [← ints_append, List.take_append_drop, e2, e3]
end
end Go.Proofs.Ytedcficjmogohaa

/- The reference's chances and the model's: plain. -/
namespace Go.Proofs.Ytedcficjmogohaa
set_option linter.unusedVariables false
set_option linter.unusedSimpArgs false
set_option maxRecDepth 100000
open Go.RowKit

/-- The reference's map has the model's chances. -/
structure MM (f : Int → Option Int) (m : MS) : Prop where
  kinds : Mt f ((0 : Nat) : Int) m.kinds
  lens : Mt f ((1000 : Nat) : Int) m.lens
  backs : Mt f ((2000 : Nat) : Int) m.backs
  lits : ∀ k : Nat, k < 8 → Mt f ((10000 + 1000 * k : Nat) : Int) (m.lits k)
theorem ot_upd (f : Int → Option Int) (a p : Int) : Ot f (updI f a p) a 1 := by
  intro x hx
  unfold updI
  rw [if_neg (by omega)]
theorem mm_begin : MM (fun _ => none) ms0 := by
  have h : ∀ (base : Int) (n : Nat), Mt (fun _ => none) base (List.replicate n 0) := by
    intro base n i hi
    rw [List.length_replicate] at hi
    simp [ch, List.getD_eq_getElem?_getD, hi]
  exact ⟨h _ _, h _ _, h _ _, fun k _ => h _ _⟩
theorem MM.bit {f : Int → Option Int} {m : MS} (h : MM f m) (hm : m.ok) (b : Int) : MM (updI f (m.kind : Int) (sawN (kindN m) b + 1024)) { m with kinds := kindsM m b } := by
  have ho := ot_upd f (m.kind : Int) (sawN (kindN m) b + 1024)
  have hk := hm.kind
  have l1 := hm.kinds
  have l2 := hm.lens
  have l3 := hm.backs
  refine ⟨?_, h.lens.other ho (by omega), h.backs.other ho (by omega), fun k hk => (h.lits k hk).other ho (by have := hm.lits k; omega)⟩
  have := h.kinds.set m.kind (by omega) (sawN (kindN m) b)
  rw [show ((0 : Nat) : Int) + (m.kind : Int) = (m.kind : Int) by omega] at this
  exact this
theorem MM.lit {f f' : Int → Option Int} {m : MS} (h : MM f m) (hm : m.ok) (ix : Nat) (hix : ix < 8) (cl : List Int) (hn : Mt f' ((10000 + 1000 * ix : Nat) : Int) cl) (ho : Ot f f' ((10000 + 1000 * ix : Nat) : Int) 256) : MM f' { m with lits := upd m.lits ix cl } := by
  have l1 := hm.kinds
  have l2 := hm.lens
  have l3 := hm.backs
  refine ⟨h.kinds.other ho (by omega), h.lens.other ho (by omega), h.backs.other ho (by omega), fun k hk => ?_⟩
  show Mt f' _ (upd m.lits ix cl k)
  by_cases e : k = ix
  · subst e
    rw [upd_same]
    exact hn
  · rw [upd_other _ _ e]
    exact (h.lits k hk).other ho (by have := hm.lits k; omega)
theorem MM.len {f f' : Int → Option Int} {m : MS} (h : MM f m) (hm : m.ok) (cl : List Int) (hn : Mt f' ((1000 : Nat) : Int) cl) (ho : Ot f f' ((1000 : Nat) : Int) 256) : MM f' { m with lens := cl } := by
  have l1 := hm.kinds
  have l3 := hm.backs
  exact ⟨h.kinds.other ho (by omega), hn, h.backs.other ho (by omega), fun k hk => (h.lits k hk).other ho (by have := hm.lits k; omega)⟩
theorem MM.back {f f' : Int → Option Int} {m : MS} (h : MM f m) (hm : m.ok) (cl : List Int) (hn : Mt f' ((2000 : Nat) : Int) cl) (ho : Ot f f' ((2000 : Nat) : Int) 16) : MM f' { m with backs := cl } := by
  have l1 := hm.kinds
  have l2 := hm.lens
  exact ⟨h.kinds.other ho (by omega), h.lens.other ho (by omega), hn, fun k hk => (h.lits k hk).other ho (by have := hm.lits k; omega)⟩
theorem lenN_half (k : Nat) (h : k ≠ 0) : lenN k = lenN (k / 2) + 1 := by
  unfold lenN
  rw [if_neg h]
  by_cases h2 : k / 2 = 0
  · have : k = 1 := by omega
    subst this
    rfl
  · rw [if_neg h2]
    have : 2 ≤ k := by omega
    rw [Nat.log2_def, if_pos this]
/-- All tokens fit where they stand. -/
theorem wr_fits (l : List Tk) (b : List UInt8) (he : expT 65536 l [] = some b) (i : Nat) (hi : i < l.length) : fitsP (wrN (l.take i)).2.out l[i] 65536 := by
  have h1 : l = l.take i ++ (l[i] :: l.drop (i + 1)) := by rw [← List.drop_eq_getElem_cons hi, List.take_append_drop]
  rw [h1, expT_append] at he
  cases ht : expT 65536 (l.take i) [] with
  | none => rw [ht] at he; cases he
  | some o =>
    rw [ht] at he
    have ho : (wrN (l.take i)).2.out = o := wr_out (l.take i) (begin0, ms0) 65536 o (by omega) ht
    rw [ho]
    have he : expT 65536 (l[i] :: l.drop (i + 1)) o = some b := he
    rw [expT] at he
    by_cases hf : fitsP o l[i] 65536
    · exact hf
    · rw [if_neg hf] at he; cases he
theorem wr_step (l : List Tk) (b : List UInt8) (he : expT 65536 l [] = some b) (i : Nat) (hi : i < l.length) (s : WS) (m : MS) (hx : (s, m) = wrN (l.take i)) : wrN (l.take (i + 1)) = ((putT s m l[i]).1, sawM (putT s m l[i]).2 l[i]) := by
  have hf := wr_fits l b he i hi
  rw [List.take_succ_eq_append_getElem hi, wrN_snoc, ← hx]
  rw [← hx] at hf
  unfold wrT
  rw [if_pos hf]
end Go.Proofs.Ytedcficjmogohaa
