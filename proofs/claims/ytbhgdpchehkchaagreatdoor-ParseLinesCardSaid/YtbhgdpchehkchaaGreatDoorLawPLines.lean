/- The walk of ParseLines. Conditions: the library's tables and its two errors are as they are laid; the text is of at most 2^48 bytes. -/
import Derived.Test.YtbhgdpchehkchaaGreatDoorRef18L
namespace RqF
theorem scoreP_lt {l : List UInt8} {x : Nat} (h : scoreP l = some x) : x < 2 * sgn := by
  unfold scoreP at h
  split at h
  · cases h
  · exact parseP_lt h
def Cmd.bits (c : Cmd) : Prop := c.a < 2 * sgn ∧ c.b < 2 * sgn
theorem readP_bits {p : Nat} {c d : Cmd} {w : List UInt8} (h : readP p c w = some d) (hc : c.bits) : d.bits := by
  unfold readP at h
  split at h
  · split at h
    · injection h with h; rw [← h]; exact hc
    · cases h
  · split at h
    · injection h with h; rw [← h]; exact hc
    · split at h
      · injection h with h; rw [← h]; exact hc
      · cases h
  · split at h
    · injection h with h; rw [← h]; exact hc
    · split at h
      · injection h with h; rw [← h]; exact hc
      · cases h
  · cases hn : numP w with
    | none => rw [hn] at h; cases h
    | some v => rw [hn] at h; injection h with h; rw [← h]; exact hc
  · cases hn : numP w with
    | none => rw [hn] at h; cases h
    | some v => rw [hn] at h; injection h with h; rw [← h]; exact hc
  · cases hn : scoreP w with
    | none => rw [hn] at h; cases h
    | some v => rw [hn] at h; injection h with h; rw [← h]; exact ⟨scoreP_lt hn, hc.2⟩
  · cases hn : scoreP w with
    | none => rw [hn] at h; cases h
    | some v => rw [hn] at h; injection h with h; rw [← h]; exact ⟨hc.1, scoreP_lt hn⟩
theorem readAll_bits : ∀ (ps : List Nat) (ws : List (List UInt8)) (c d : Cmd), readAll ps ws c = some d → c.bits → d.bits
  | [], ws, c, d, h, hc => by unfold readAll at h; injection h with h; rw [← h]; exact hc
  | p :: ps, [], c, d, h, hc => by unfold readAll at h; injection h with h; rw [← h]; exact hc
  | p :: ps, w :: ws, c, d, h, hc => by
    have h' : (readP p c w).bind (readAll ps ws) = some d := h
    cases h1 : readP p c w with
    | none => rw [h1] at h'; cases h'
    | some e => rw [h1] at h'; exact readAll_bits ps ws e d h' (readP_bits h1 hc)
theorem nil_bits (k : Nat) (n : Int) : Cmd.bits { Cmd.nil with kind := k, n := n } := ⟨show 0 < 2 * sgn by decide, show 0 < 2 * sgn by decide⟩
theorem lineP_bits (l : List UInt8) : (lineP l).1.bits := by
  unfold lineP
  split
  · exact nil_bits 0 0
  · rename_i k _
    unfold afterP
    split
    · exact nil_bits 0 0
    · rename_i c hc
      have h := readAll_bits _ _ _ _ hc (nil_bits k 0)
      split
      · exact nil_bits k c.n
      · exact h
end RqF
namespace Go.Proofs.YtbhgdpchehkchaaGreatDoor
open Go.RowKit

set_option maxRecDepth 100000 in
set_option maxHeartbeats 2000000 in
theorem same18_any (c : RqF.Cmd) (w : World) (hc : c.bits) :
    Calls Tryz.prog 19 #[.agg #[.int .i64 c.kind, .string ⟨c.key.toArray⟩, .string ⟨c.lo.toArray⟩, .string ⟨c.hi.toArray⟩, .float .f64 c.a, .float .f64 c.b, .int .i64 c.n, .int .i64 c.id], .agg #[.int .i64 c.kind, .string ⟨c.key.toArray⟩, .string ⟨c.lo.toArray⟩, .string ⟨c.hi.toArray⟩, .float .f64 c.a, .float .f64 c.b, .int .i64 c.n, .int .i64 c.id]] w
      fun e w' => e = .returned (.bool true) ∧ Below w.heap.size w w' := by
  obtain ⟨h1, h2⟩ := hc
  have H1 := Lib.hid h1
  have H2 := Lib.hid h2
  clear h1 h2
  have s1 := str_self c.key
  have s2 := str_self c.lo
  have s3 := str_self c.hi
  have hz := two_world w (.cells (cmdCells c) 30) (.cells (cmdCells c) 41)
  have HZ := Lib.hid hz.1
  clear hz
  go_enter Tryz.func19, Tryz.ntmps19
  go_wp2_with fail
  refine (sameBits_any c.a c.a _ H1.out H1.out).mono ?_
  rintro e w1 ⟨rfl, rfl⟩
  rw [sameB_self]
  go_wp2_with fail
  refine (sameBits_any c.b c.b _ H2.out H2.out).mono ?_
  rintro e w1 ⟨rfl, rfl⟩
  rw [sameB_self]
  go_wp2_with fail
  go_ret
  exact ⟨rfl, HZ.out⟩

set_option maxRecDepth 100000 in
set_option maxHeartbeats 2000000 in
theorem parseLines_any (s : ByteArray) (w : World) (ht : TabsM w) (hs : s.size ≤ 281474976710656) :
    Calls Tryz.prog 6 #[.string s] w fun e w' => e = .returned (.bool true) ∧ Below w.heap.size w w' := by
  have HT := Lib.hid ht; clear ht
  by_cases hlen : 3000 < s.size
  · go_enter Tryz.func6, Tryz.ntmps6
    go_wp2_with fail
    refine (awake18_any _ HT.out).mono ?_
    rintro e w3 ⟨rfl, hb5⟩
    go_wp2_with fail
    go_ret
    exact ⟨rfl, hb5⟩
  · obtain ⟨c, hc⟩ : ∃ c, c = (RqF.lineP s.data.toList).1 := ⟨_, rfl⟩
    obtain ⟨x, hx⟩ : ∃ x, x = (RqF.lineP s.data.toList).2 := ⟨_, rfl⟩
    have HL : Hid (RqF.lineP s.data.toList = (c, x)) := by show _ = _; rw [hc, hx]
    have HC : Hid c.bits := by rw [hc]; exact RqF.lineP_bits _
    clear hc hx
    have hlen2 : s.size < 4294967281 := by omega
    go_enter Tryz.func6, Tryz.ntmps6
    go_wp2_with fail
    refine (line_any s _ HT.out hlen2).mono ?_
    rintro e w1 ⟨he, hb1⟩
    unfold LineRet at he
    rw [HL.out] at he
    obtain rfl : e = .returned (.tuple #[.agg #[.int .i64 c.kind, .string ⟨c.key.toArray⟩, .string ⟨c.lo.toArray⟩, .string ⟨c.hi.toArray⟩, .float .f64 c.a, .float .f64 c.b, .int .i64 c.n, .int .i64 c.id], .int .i64 x]) := he
    have hb2 := hb1.alloc hb1.size (.cells (cmdCells c) 30)
    have HB1 := Lib.hid hb2; clear hb1 hb2
    go_wp2_with fail
    refine (line18_any s _ hlen2).mono ?_
    rintro e w2 ⟨he, hb2⟩
    unfold LineRet at he
    rw [HL.out] at he
    obtain rfl : e = .returned (.tuple #[.agg #[.int .i64 c.kind, .string ⟨c.key.toArray⟩, .string ⟨c.lo.toArray⟩, .string ⟨c.hi.toArray⟩, .float .f64 c.a, .float .f64 c.b, .int .i64 c.n, .int .i64 c.id], .int .i64 x]) := he
    obtain ⟨c0, c1, c2, c3, c4, c5, c6, c7, hlt⟩ := cmd_at (c := c) (below_blk hb2 (heap_alloc_new w1 _))
    have hb3 := below_trans HB1.out hb2
    have hb4 := hb3.alloc hb3.size (.cells (cmdCells c) 41)
    have HB3 := Lib.hid hb4; clear hb2 hb3 hb4
    go_wp2_with fail
    refine (same18_any c _ HC.out).mono ?_
    rintro e w3 ⟨rfl, hb5⟩
    have HB5 := Lib.hid (below_trans HB3.out hb5); clear hb5
    go_wp2_with fail
    refine (awake18_any _ (HT.out.below HB5.out)).mono ?_
    rintro e w4 ⟨rfl, hb6⟩
    go_wp2_with fail
    go_ret
    exact ⟨rfl, below_trans HB5.out hb6⟩
end Go.Proofs.YtbhgdpchehkchaaGreatDoor
