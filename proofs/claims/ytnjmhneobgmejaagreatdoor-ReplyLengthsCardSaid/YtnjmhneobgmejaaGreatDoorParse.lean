/- num.Parse: the number of a text. Conditions: the library's tables and its two errors are as they are laid; the text is of at most 2^48 bytes. -/
import Derived.Test.YtnjmhneobgmejaaGreatDoorNumP
import Derived.Test.YtnjmhneobgmejaaGreatDoorAwake3
import Derived.WideLaws
import Derived.LaidEql
namespace RqF
/-- A whole number as a double. -/
def ofInt (n : Int) : Nat := Go.FloatKind.f64.nearest n
/-- What num.Parse reads. -/
def parseP (l : List UInt8) : Option Nat :=
  if l = [110, 97, 110] then some 9221120237041090561 else if l = [105, 110, 102] then some infW else if l = [45, 105, 110, 102] then some 18442240474082181120 else if l = [45, 48] then some sgn else
  match bitsP l with
  | some b => some b
  | none =>
    match Go.Lib.parseIntB 64 l with
    | .ok n => if textF (ofInt n) = l then some (ofInt n) else none
    | _ => none
theorem ofInt_lt (n : Int) : ofInt n < 2 * sgn := by
  have h := Ieee.double.write_lt (.number (n < 0) n.natAbs 0)
  have e : 2 ^ Ieee.double.width = 2 * sgn := by decide
  rw [e] at h; exact h
end RqF
namespace Go.Proofs.YtnjmhneobgmejaaGreatDoor
open Go.RowKit

/-- The tables and the two errors are as the program's text lays them. -/
structure TabsP (w : World) : Prop extends Tabs w where
  es : ∃ tp p, w.var? Tryz.prog "strconv.ErrSyntax" = some #[.iface tp p]
  er : ∃ tp p, w.var? Tryz.prog "strconv.ErrRange" = some #[.iface tp p]
theorem gES : Tryz.prog.globalNamed "strconv.ErrSyntax" = some 3 := by kernel_rfl
theorem gER : Tryz.prog.globalNamed "strconv.ErrRange" = some 4 := by kernel_rfl
theorem TabsP.below {w w' : World} (h : TabsP w) (hb : Below w.heap.size w w') : TabsP w' := by
  obtain ⟨t1, p1, h1⟩ := h.es
  obtain ⟨t2, p2, h2⟩ := h.er
  exact { h.toTabs.below hb with es := ⟨t1, p1, var?_below hb gES (var_lt gES h1) h1⟩, er := ⟨t2, p2, var?_below hb gER (var_lt gER h2) h2⟩ }

/-- What strconv.ParseInt(s, 10, 64) hands back. -/
def IntRet (l : List UInt8) (e : Ending) : Prop :=
  match Lib.parseIntB 64 l with
  | .ok n => e = .returned (.tuple #[.int .i64 n, .nilIface])
  | _ => ∃ n t a, e = .returned (.tuple #[.int .i64 n, .iface t (.pointer (some a))])

theorem parseInt_any (s : ByteArray) (w : World) (hs : s.size ≤ 281474976710656) (ht : TabsP w) :
    Calls Tryz.prog 79 #[.string s, .int .i64 10, .int .i64 64] w fun e w' => IntRet s.data.toList e ∧ Below w.heap.size w w' := by
  unfold IntRet
  cases h : Lib.parseIntB 64 s.data.toList
  · rename_i n
    refine (Any.strconv_ParseInt_10_at64_ok Tryz.laysC174 s (by omega) n h w).mono fun e w' ⟨he, hw⟩ => ⟨he, ?_⟩
    rcases hw with rfl | ⟨t, rfl⟩
    · exact Below.refl _ _
    · exact below_bytes w t
  · obtain ⟨tp, p, hv⟩ := ht.es
    exact (Any.strconv_ParseInt_10_at64_syntax_var Tryz.laysC174 s hs h tp p w hv).mono fun e w' ⟨N, he, _, _, hb⟩ => ⟨⟨_, _, _, he⟩, hb⟩
  · obtain ⟨tp, p, hv⟩ := ht.er
    exact (Any.strconv_ParseInt_10_at64_range_var Tryz.laysC174 s hs h tp p w hv).mono fun e w' ⟨N, he, _, _, hb⟩ => ⟨⟨_, _, _, he⟩, hb⟩

def ParseRet (l : List UInt8) (e : Ending) : Prop := e = .returned (.tuple #[.float .f64 ((RqF.parseP l).getD 0), .int .i64 (if (RqF.parseP l).isSome then 0 else 3)])

/-- None of the four texts that stand for themselves. -/
theorem parseP_rest {s : ByteArray} (h1 : (s.toList == [110, 97, 110]) = false) (h2 : (s.toList == [105, 110, 102]) = false) (h3 : (s.toList == [45, 105, 110, 102]) = false) (h4 : (s.toList == [45, 48]) = false) : RqF.parseP s.data.toList = match RqF.bitsP s.data.toList with
    | some b => some b
    | none => match Lib.parseIntB 64 s.data.toList with
      | .ok n => if RqF.textF (RqF.ofInt n) = s.data.toList then some (RqF.ofInt n) else none
      | _ => none := by
  rw [ByteArray.toList_eq] at h1 h2 h3 h4
  unfold RqF.parseP
  rw [if_neg (by simpa using h1), if_neg (by simpa using h2), if_neg (by simpa using h3), if_neg (by simpa using h4)]

set_option maxRecDepth 100000 in
theorem parse_nan (s : ByteArray) (w : World) (h1 : (s.toList == [110, 97, 110]) = true) : Calls Tryz.prog 62 #[.string s] w fun e w' => ParseRet s.data.toList e ∧ Below w.heap.size w w' := by
  have HF : Hid (RqF.parseP s.data.toList = some 9221120237041090561) := by
    have e : s.data.toList = [110, 97, 110] := by rw [← ByteArray.toList_eq]; simpa using h1
    rw [e]; rfl
  go_enter Tryz.func62, Tryz.ntmps62
  go_wp2_with fail
  refine (nanF_any _).mono ?_
  rintro e w' ⟨rfl, rfl⟩
  go_wp2_with fail
  go_ret2
  refine ⟨?_, Below.refl _ _⟩
  unfold ParseRet; rw [HF.out]; rfl

set_option maxRecDepth 100000 in
theorem parse_inf (s : ByteArray) (w : World) (h1 : (s.toList == [110, 97, 110]) = false) (h2 : (s.toList == [105, 110, 102]) = true) : Calls Tryz.prog 62 #[.string s] w fun e w' => ParseRet s.data.toList e ∧ Below w.heap.size w w' := by
  have HF : Hid (RqF.parseP s.data.toList = some RqF.infW) := by
    have e : s.data.toList = [105, 110, 102] := by rw [← ByteArray.toList_eq]; simpa using h2
    rw [e]; rfl
  go_enter Tryz.func62, Tryz.ntmps62
  go_wp2_with fail
  refine (inf_pos 1 _ (by decide)).mono ?_
  rintro e w' ⟨rfl, rfl⟩
  go_wp2_with fail
  go_ret2
  refine ⟨?_, Below.refl _ _⟩
  unfold ParseRet; rw [HF.out]; rfl

set_option maxRecDepth 100000 in
theorem parse_ninf (s : ByteArray) (w : World) (h1 : (s.toList == [110, 97, 110]) = false) (h2 : (s.toList == [105, 110, 102]) = false) (h3 : (s.toList == [45, 105, 110, 102]) = true) : Calls Tryz.prog 62 #[.string s] w fun e w' => ParseRet s.data.toList e ∧ Below w.heap.size w w' := by
  have HF : Hid (RqF.parseP s.data.toList = some 18442240474082181120) := by
    have e : s.data.toList = [45, 105, 110, 102] := by rw [← ByteArray.toList_eq]; simpa using h3
    rw [e]; rfl
  go_enter Tryz.func62, Tryz.ntmps62
  go_wp2_with fail
  refine (inf_neg (-1) _ (by decide)).mono ?_
  rintro e w' ⟨rfl, rfl⟩
  go_wp2_with fail
  go_ret2
  refine ⟨?_, Below.refl _ _⟩
  unfold ParseRet; rw [HF.out]; rfl

set_option maxRecDepth 100000 in
theorem parse_zero (s : ByteArray) (w : World) (h1 : (s.toList == [110, 97, 110]) = false) (h2 : (s.toList == [105, 110, 102]) = false) (h3 : (s.toList == [45, 105, 110, 102]) = false) (h4 : (s.toList == [45, 48]) = true) : Calls Tryz.prog 62 #[.string s] w fun e w' => ParseRet s.data.toList e ∧ Below w.heap.size w w' := by
  have HF : Hid (RqF.parseP s.data.toList = some RqF.sgn) := by
    have e : s.data.toList = [45, 48] := by rw [← ByteArray.toList_eq]; simpa using h4
    rw [e]; rfl
  go_enter Tryz.func62, Tryz.ntmps62
  go_wp2_with fail
  refine (copysign_any _ _ _ small_1 small_2).mono ?_
  rintro e w' ⟨rfl, rfl⟩
  rw [cps_nought]
  go_wp2_with fail
  go_ret2
  refine ⟨?_, Below.refl _ _⟩
  unfold ParseRet; rw [HF.out]; rfl

set_option maxRecDepth 100000 in
set_option maxHeartbeats 400000 in
theorem parse_bits (s : ByteArray) (w : World) (h1 : (s.toList == [110, 97, 110]) = false) (h2 : (s.toList == [105, 110, 102]) = false) (h3 : (s.toList == [45, 105, 110, 102]) = false) (h4 : (s.toList == [45, 48]) = false) (b : Nat) (hb : RqF.bitsP s.data.toList = some b) :
    Calls Tryz.prog 62 #[.string s] w fun e w' => ParseRet s.data.toList e ∧ Below w.heap.size w w' := by
  have HF : Hid (RqF.parseP s.data.toList = some b) := by rw [parseP_rest h1 h2 h3 h4, hb]; rfl
  have HB := Lib.hid hb; clear hb
  go_enter Tryz.func62, Tryz.ntmps62
  go_wp2_with fail
  refine (bits_any _ _).mono ?_
  rintro e w1 ⟨⟨v, rfl, hv⟩, hbl⟩
  obtain rfl := hv b HB.out
  rw [show (RqF.bitsP s.data.toList).isSome = true from by rw [HB.out]; rfl]
  clear hv
  go_wp2_with fail
  go_ret2
  refine ⟨?_, hbl⟩
  unfold ParseRet; rw [HF.out]; rfl

set_option maxRecDepth 100000 in
set_option maxHeartbeats 400000 in
theorem parse_err (s : ByteArray) (w : World) (hs : s.size ≤ 281474976710656) (ht : TabsP w) (h1 : (s.toList == [110, 97, 110]) = false) (h2 : (s.toList == [105, 110, 102]) = false) (h3 : (s.toList == [45, 105, 110, 102]) = false) (h4 : (s.toList == [45, 48]) = false) (hb : RqF.bitsP s.data.toList = none) (hn : ∀ n, Lib.parseIntB 64 s.data.toList ≠ .ok n) :
    Calls Tryz.prog 62 #[.string s] w fun e w' => ParseRet s.data.toList e ∧ Below w.heap.size w w' := by
  have HF : Hid (RqF.parseP s.data.toList = none) := by
    rw [parseP_rest h1 h2 h3 h4, hb]
    cases h : Lib.parseIntB 64 s.data.toList
    · exact absurd h (hn _)
    · rfl
    · rfl
  have HB := Lib.hid hb; clear hb
  have HT := Lib.hid ht; clear ht
  have HN := Lib.hid hn; clear hn
  go_enter Tryz.func62, Tryz.ntmps62
  go_wp2_with fail
  refine (bits_any _ _).mono ?_
  rintro e w1 ⟨⟨v, rfl, hv⟩, hbl⟩
  rw [show (RqF.bitsP s.data.toList).isSome = false from by rw [HB.out]; rfl]
  clear hv
  go_wp2_with fail
  refine (parseInt_any s _ hs (HT.out.below hbl)).mono ?_
  rintro e w2 ⟨hret, hbl2⟩
  obtain ⟨n, t, a, rfl⟩ : ∃ n t a, e = .returned (.tuple #[.int .i64 n, .iface t (.pointer (some a))]) := by
    unfold IntRet at hret
    cases h : Lib.parseIntB 64 s.data.toList
    · exact absurd h (HN.out _)
    · rw [h] at hret; exact hret
    · rw [h] at hret; exact hret
  clear hret
  go_wp2_with fail
  go_ret2
  refine ⟨?_, below_trans hbl hbl2⟩
  unfold ParseRet; rw [HF.out]; rfl

set_option maxRecDepth 100000 in
set_option maxHeartbeats 400000 in
theorem parse_int (s : ByteArray) (w : World) (hs : s.size ≤ 281474976710656) (ht : TabsP w) (h1 : (s.toList == [110, 97, 110]) = false) (h2 : (s.toList == [105, 110, 102]) = false) (h3 : (s.toList == [45, 105, 110, 102]) = false) (h4 : (s.toList == [45, 48]) = false) (hb : RqF.bitsP s.data.toList = none) (n : Int) (hn : Lib.parseIntB 64 s.data.toList = .ok n) :
    Calls Tryz.prog 62 #[.string s] w fun e w' => ParseRet s.data.toList e ∧ Below w.heap.size w w' := by
  have HF : Hid (RqF.parseP s.data.toList = if RqF.textF (RqF.ofInt n) = s.data.toList then some (RqF.ofInt n) else none) := by
    rw [parseP_rest h1 h2 h3 h4, hb, hn]; rfl
  have HB := Lib.hid hb; clear hb
  have HT := Lib.hid ht; clear ht
  have HN := Lib.hid hn; clear hn
  go_enter Tryz.func62, Tryz.ntmps62
  go_wp2_with fail
  refine (bits_any _ _).mono ?_
  rintro e w1 ⟨⟨v, rfl, hv⟩, hbl⟩
  rw [show (RqF.bitsP s.data.toList).isSome = false from by rw [HB.out]; rfl]
  clear hv
  go_wp2_with fail
  refine (parseInt_any s _ hs (HT.out.below hbl)).mono ?_
  rintro e w2 ⟨hret, hbl2⟩
  obtain rfl : e = .returned (.tuple #[.int .i64 n, .nilIface]) := by
    unfold IntRet at hret
    rw [HN.out] at hret; exact hret
  clear hret
  go_wp2_with fail
  rw [show floatOfInt .f64 n = RqF.ofInt n from rfl]
  refine (text_any _ _ ((HT.out.below hbl).below hbl2).toTabs (RqF.ofInt_lt n)).mono ?_
  rintro e w3 ⟨rfl, hbl3⟩
  go_wp2_with fail
  all_goals go_ret2
  · have he : RqF.textF (RqF.ofInt n) = s.data.toList := by
      rw [← ByteArray.toList_eq]; exact beq_iff_eq.1 ‹_›
    refine ⟨?_, below_trans (below_trans hbl hbl2) hbl3⟩
    unfold ParseRet; rw [HF.out, if_pos he]; rfl
  · have he : ¬ RqF.textF (RqF.ofInt n) = s.data.toList := by
      rw [← ByteArray.toList_eq]; exact beq_eq_false_iff_ne.1 ‹_›
    refine ⟨?_, below_trans (below_trans hbl hbl2) hbl3⟩
    unfold ParseRet; rw [HF.out, if_neg he]; rfl

/-- num.Parse: a text is read as 'parseP' has it. -/
theorem parse_any (s : ByteArray) (w : World) (hs : s.size ≤ 281474976710656) (ht : TabsP w) :
    Calls Tryz.prog 62 #[.string s] w fun e w' => ParseRet s.data.toList e ∧ Below w.heap.size w w' := by
  cases h1 : (s.toList == [110, 97, 110])
  · cases h2 : (s.toList == [105, 110, 102])
    · cases h3 : (s.toList == [45, 105, 110, 102])
      · cases h4 : (s.toList == [45, 48])
        · cases hb : RqF.bitsP s.data.toList with
          | some b => exact parse_bits s w h1 h2 h3 h4 b hb
          | none =>
            by_cases hn : ∃ n, Lib.parseIntB 64 s.data.toList = .ok n
            · obtain ⟨n, hn⟩ := hn
              exact parse_int s w hs ht h1 h2 h3 h4 hb n hn
            · exact parse_err s w hs ht h1 h2 h3 h4 hb (fun n h => hn ⟨n, h⟩)
        · exact parse_zero s w h1 h2 h3 h4
      · exact parse_ninf s w h1 h2 h3
    · exact parse_inf s w h1 h2
  · exact parse_nan s w h1
end Go.Proofs.YtnjmhneobgmejaaGreatDoor
