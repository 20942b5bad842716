/- The walks of what reads a word into a command (package parse). Conditions: the library's tables are as they are laid; a text is of at most 2^48 bytes. -/
import Derived.Test.YtbhgdpchehkchaaGreatDoorCmdA
import Derived.Test.YtbhgdpchehkchaaGreatDoorMem
namespace Go.Proofs.YtbhgdpchehkchaaGreatDoor
open Go.RowKit

/-- A command's cells. -/
def cmdCells (c : RqF.Cmd) : Array Value := #[.int .i64 c.kind, .string ⟨c.key.toArray⟩, .string ⟨c.lo.toArray⟩, .string ⟨c.hi.toArray⟩, .float .f64 c.a, .float .f64 c.b, .int .i64 c.n, .int .i64 c.id]
/-- What a word's reader leaves: its answer; the command with the word, if there is one; nothing else of what was there has changed. -/
def ReadRet (p : Nat) (c : RqF.Cmd) (l : List UInt8) (bc : Nat) (w : World) (e : Ending) (w' : World) : Prop :=
  ∃ c' : RqF.Cmd, e = .returned (.int .i64 (errI (RqF.readP p c l).isSome)) ∧ (∀ d, RqF.readP p c l = some d → c' = d) ∧ w.grownBy w' (some bc) ∧ w'.heap[bc]? = some (.cells (cmdCells c') 30 (0, 0))
/-- The command's block. -/
def CmdAt (bc : Nat) (c : RqF.Cmd) (w : World) : Prop := w.heap[bc]? = some (.cells (cmdCells c) 30 (0, 0))

theorem errI_true : errI true = 0 := rfl
theorem errI_false : errI false = 3 := rfl

set_option maxRecDepth 100000 in
theorem read_key (c : RqF.Cmd) (s : ByteArray) (bc : Nat) (w : World) (hs : s.size ≤ 281474976710656) (hc : CmdAt bc c w) :
    Calls Tryz.prog 57 #[.pointer (some ⟨bc, 0, none⟩), .string s] w (ReadRet 0 c s.data.toList bc w) := by
  have H := Lib.hid hc; clear hc
  have hc1 : w.cell? ⟨bc, 1, none⟩ = some (.string ⟨c.key.toArray⟩) := blk_cell H.out rfl
  have hf1 : w.frozen? ⟨bc, 1, none⟩ = false := blk_free H.out
  go_enter Tryz.func57, Tryz.ntmps57
  go_wp2_with fail
  refine (pword_any s _ (by omega)).mono ?_
  rintro e w1 ⟨rfl, rfl⟩
  go_wp2_with fail
  refine (failed_any _ _).mono ?_
  rintro e w1 ⟨rfl, rfl⟩
  go_wp2_with fail
  go_ret
  refine ⟨{ c with key := s.data.toList }, ?_, ?_, grown_set (World.grownBy.refl _ _) _, blk_set H.out _⟩
  · show Ending.returned (.int .i64 (errI (RqF.isWord s.data.toList))) = _
    unfold RqF.readP
    cases RqF.isWord s.data.toList <;> rfl
  · intro d hd
    unfold RqF.readP at hd
    simp only at hd
    split at hd
    · injection hd
    · cases hd

theorem bound_some (l : List UInt8) (c : RqF.Cmd) (f : RqF.Cmd → List UInt8 → RqF.Cmd) : (if l = [42] then some (f c []) else if RqF.isWord l then some (f c l) else none) = if boundOk l then some (f c (boundT l)) else none := by
  unfold boundOk boundT
  by_cases h : l = [42]
  · rw [if_pos h, if_pos h, if_pos h]; rfl
  · rw [if_neg h, if_neg h, if_neg h]
set_option maxRecDepth 100000 in
theorem read_lo (c : RqF.Cmd) (s : ByteArray) (bc : Nat) (w : World) (hs : s.size ≤ 281474976710656) (hc : CmdAt bc c w) :
    Calls Tryz.prog 59 #[.pointer (some ⟨bc, 0, none⟩), .string s] w (ReadRet 1 c s.data.toList bc w) := by
  have H := Lib.hid hc; clear hc
  have hc1 : w.cell? ⟨bc, 2, none⟩ = some (.string ⟨c.lo.toArray⟩) := blk_cell H.out rfl
  have hf1 : w.frozen? ⟨bc, 2, none⟩ = false := blk_free H.out
  go_enter Tryz.func59, Tryz.ntmps59
  go_wp2_with fail
  refine (pbound_any s _ hs).mono ?_
  rintro e w1 ⟨he, rfl⟩
  obtain rfl : e = _ := he
  go_wp2_with fail
  go_ret
  have hr : RqF.readP 1 c s.data.toList = if boundOk s.data.toList then some { c with lo := boundT s.data.toList } else none := bound_some s.data.toList c (fun c l => { c with lo := l })
  refine ⟨{ c with lo := boundT s.data.toList }, ?_, ?_, grown_set (World.grownBy.refl _ _) _, blk_set H.out _⟩
  · show Ending.returned (.int .i64 (errI (boundOk s.data.toList))) = _
    rw [hr]
    cases boundOk s.data.toList <;> rfl
  · intro d hd
    rw [hr] at hd
    split at hd
    · injection hd
    · cases hd
set_option maxRecDepth 100000 in
theorem read_hi (c : RqF.Cmd) (s : ByteArray) (bc : Nat) (w : World) (hs : s.size ≤ 281474976710656) (hc : CmdAt bc c w) :
    Calls Tryz.prog 61 #[.pointer (some ⟨bc, 0, none⟩), .string s] w (ReadRet 2 c s.data.toList bc w) := by
  have H := Lib.hid hc; clear hc
  have hc1 : w.cell? ⟨bc, 3, none⟩ = some (.string ⟨c.hi.toArray⟩) := blk_cell H.out rfl
  have hf1 : w.frozen? ⟨bc, 3, none⟩ = false := blk_free H.out
  go_enter Tryz.func61, Tryz.ntmps61
  go_wp2_with fail
  refine (pbound_any s _ hs).mono ?_
  rintro e w1 ⟨he, rfl⟩
  obtain rfl : e = _ := he
  go_wp2_with fail
  go_ret
  have hr : RqF.readP 2 c s.data.toList = if boundOk s.data.toList then some { c with hi := boundT s.data.toList } else none := bound_some s.data.toList c (fun c l => { c with hi := l })
  refine ⟨{ c with hi := boundT s.data.toList }, ?_, ?_, grown_set (World.grownBy.refl _ _) _, blk_set H.out _⟩
  · show Ending.returned (.int .i64 (errI (boundOk s.data.toList))) = _
    rw [hr]
    cases boundOk s.data.toList <;> rfl
  · intro d hd
    rw [hr] at hd
    split at hd
    · injection hd
    · cases hd

set_option maxRecDepth 100000 in
theorem read_n (c : RqF.Cmd) (s : ByteArray) (bc : Nat) (w : World) (hs : s.size ≤ 281474976710656) (ht : TabsP w) (hc : CmdAt bc c w) :
    Calls Tryz.prog 63 #[.pointer (some ⟨bc, 0, none⟩), .string s] w (ReadRet 3 c s.data.toList bc w) := by
  have H := Lib.hid hc; clear hc
  have HT := Lib.hid ht; clear ht
  go_enter Tryz.func63, Tryz.ntmps63
  go_wp2_with fail
  refine (pnumber_any s _ hs HT.out).mono ?_
  rintro e w1 ⟨⟨n, rfl, hn⟩, hb⟩
  have H1 := Lib.hid (below_blk hb H.out)
  have HN := Lib.hid hn; clear hn
  have hc1 : w1.cell? ⟨bc, 6, none⟩ = some (.int .i64 c.n) := blk_cell H1.out rfl
  have hf1 : w1.frozen? ⟨bc, 6, none⟩ = false := blk_free H1.out
  go_wp2_with fail
  refine (failed_any _ _).mono ?_
  rintro e w2 ⟨rfl, rfl⟩
  go_wp2_with fail
  go_ret
  refine ⟨{ c with n := n }, ?_, ?_, grown_set (grown_of_below hb _) _, blk_set H1.out _⟩
  · show Ending.returned (.int .i64 (errI (RqF.numP s.data.toList).isSome)) = _
    unfold RqF.readP
    cases RqF.numP s.data.toList <;> rfl
  · intro d hd
    unfold RqF.readP at hd
    cases h : RqF.numP s.data.toList with
    | none => rw [h] at hd; cases hd
    | some v =>
      rw [h] at hd
      injection hd with hd
      rw [← hd, HN.out v h]
set_option maxRecDepth 100000 in
theorem read_id (c : RqF.Cmd) (s : ByteArray) (bc : Nat) (w : World) (hs : s.size ≤ 281474976710656) (ht : TabsP w) (hc : CmdAt bc c w) :
    Calls Tryz.prog 65 #[.pointer (some ⟨bc, 0, none⟩), .string s] w (ReadRet 4 c s.data.toList bc w) := by
  have H := Lib.hid hc; clear hc
  have HT := Lib.hid ht; clear ht
  go_enter Tryz.func65, Tryz.ntmps65
  go_wp2_with fail
  refine (pnumber_any s _ hs HT.out).mono ?_
  rintro e w1 ⟨⟨n, rfl, hn⟩, hb⟩
  have H1 := Lib.hid (below_blk hb H.out)
  have HN := Lib.hid hn; clear hn
  have hc1 : w1.cell? ⟨bc, 7, none⟩ = some (.int .i64 c.id) := blk_cell H1.out rfl
  have hf1 : w1.frozen? ⟨bc, 7, none⟩ = false := blk_free H1.out
  go_wp2_with fail
  refine (failed_any _ _).mono ?_
  rintro e w2 ⟨rfl, rfl⟩
  go_wp2_with fail
  go_ret
  refine ⟨{ c with id := n }, ?_, ?_, grown_set (grown_of_below hb _) _, blk_set H1.out _⟩
  · show Ending.returned (.int .i64 (errI (RqF.numP s.data.toList).isSome)) = _
    unfold RqF.readP
    cases RqF.numP s.data.toList <;> rfl
  · intro d hd
    unfold RqF.readP at hd
    cases h : RqF.numP s.data.toList with
    | none => rw [h] at hd; cases hd
    | some v =>
      rw [h] at hd
      injection hd with hd
      rw [← hd, HN.out v h]

set_option maxRecDepth 100000 in
theorem read_a (c : RqF.Cmd) (s : ByteArray) (bc : Nat) (w : World) (hs : s.size ≤ 281474976710656) (ht : TabsP w) (hc : CmdAt bc c w) :
    Calls Tryz.prog 67 #[.pointer (some ⟨bc, 0, none⟩), .string s] w (ReadRet 5 c s.data.toList bc w) := by
  have H := Lib.hid hc; clear hc
  have HT := Lib.hid ht; clear ht
  go_enter Tryz.func67, Tryz.ntmps67
  go_wp2_with fail
  refine (pscore_any s _ hs HT.out).mono ?_
  rintro e w1 ⟨he, hb⟩
  obtain rfl : e = _ := he
  have H1 := Lib.hid (below_blk hb H.out)
  have hc1 : w1.cell? ⟨bc, 4, none⟩ = some (.float .f64 c.a) := blk_cell H1.out rfl
  have hf1 : w1.frozen? ⟨bc, 4, none⟩ = false := blk_free H1.out
  go_wp2_with fail
  go_ret
  refine ⟨{ c with a := (RqF.scoreP s.data.toList).getD 0 }, ?_, ?_, grown_set (grown_of_below hb _) _, blk_set H1.out _⟩
  · show Ending.returned (.int .i64 (errI (RqF.scoreP s.data.toList).isSome)) = _
    unfold RqF.readP
    cases RqF.scoreP s.data.toList <;> rfl
  · intro d hd
    unfold RqF.readP at hd
    cases h : RqF.scoreP s.data.toList with
    | none => rw [h] at hd; cases hd
    | some v =>
      rw [h] at hd
      injection hd
set_option maxRecDepth 100000 in
theorem read_b (c : RqF.Cmd) (s : ByteArray) (bc : Nat) (w : World) (hs : s.size ≤ 281474976710656) (ht : TabsP w) (hc : CmdAt bc c w) :
    Calls Tryz.prog 69 #[.pointer (some ⟨bc, 0, none⟩), .string s] w (ReadRet 6 c s.data.toList bc w) := by
  have H := Lib.hid hc; clear hc
  have HT := Lib.hid ht; clear ht
  go_enter Tryz.func69, Tryz.ntmps69
  go_wp2_with fail
  refine (pscore_any s _ hs HT.out).mono ?_
  rintro e w1 ⟨he, hb⟩
  obtain rfl : e = _ := he
  have H1 := Lib.hid (below_blk hb H.out)
  have hc1 : w1.cell? ⟨bc, 5, none⟩ = some (.float .f64 c.b) := blk_cell H1.out rfl
  have hf1 : w1.frozen? ⟨bc, 5, none⟩ = false := blk_free H1.out
  go_wp2_with fail
  go_ret
  refine ⟨{ c with b := (RqF.scoreP s.data.toList).getD 0 }, ?_, ?_, grown_set (grown_of_below hb _) _, blk_set H1.out _⟩
  · show Ending.returned (.int .i64 (errI (RqF.scoreP s.data.toList).isSome)) = _
    unfold RqF.readP
    cases RqF.scoreP s.data.toList <;> rfl
  · intro d hd
    unfold RqF.readP at hd
    cases h : RqF.scoreP s.data.toList with
    | none => rw [h] at hd; cases hd
    | some v =>
      rw [h] at hd
      injection hd
end Go.Proofs.YtbhgdpchehkchaaGreatDoor
