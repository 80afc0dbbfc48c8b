/- The model of Stretches: each place is cut off from both sides by all others. -/
import Derived.Test.YtodlbgncdggimaaT32
import Derived.Test.YtodlbgncdggimaaP5
namespace Go.Proofs.Ytodlbgncdggimaa

/-- a stretch: from fn / fd to tn / td -/
structure Str where
  fn : Int
  fd : Int
  tn : Int
  td : Int

def cutN (pl ws : List Int) (k i : Nat) : Int := pl[i]?.getD 0 * pl[i]?.getD 0 - pl[k]?.getD 0 * pl[k]?.getD 0 + ws[k]?.getD 0 - ws[i]?.getD 0
def cutD (pl : List Int) (k i : Nat) : Int := 2 * (pl[i]?.getD 0 - pl[k]?.getD 0)
/-- place i cuts the stretch of place k -/
def cut (pl ws : List Int) (k : Nat) (s : Str) (i : Nat) : Str :=
  if i = k then s else
  if k < i then (if ratN (cutN pl ws k i) (cutD pl k i) * s.td < s.tn * ratD (cutN pl ws k i) (cutD pl k i) then ⟨s.fn, s.fd, ratN (cutN pl ws k i) (cutD pl k i), ratD (cutN pl ws k i) (cutD pl k i)⟩ else s)
  else (if s.fn * ratD (cutN pl ws k i) (cutD pl k i) < ratN (cutN pl ws k i) (cutD pl k i) * s.fd then ⟨ratN (cutN pl ws k i) (cutD pl k i), ratD (cutN pl ws k i) (cutD pl k i), s.tn, s.td⟩ else s)
def cutTo (pl ws : List Int) (k : Nat) (s0 : Str) : Nat → Str
  | 0 => s0
  | i + 1 => cut pl ws k (cutTo pl ws k s0 i) i
def strRaw (pl ws : List Int) (fr to : Int) (k : Nat) : Str := cutTo pl ws k ⟨fr, 1, to, 1⟩ pl.length
def strAt (pl ws : List Int) (fr to : Int) (k : Nat) : Str := if (strRaw pl ws fr to k).fn * (strRaw pl ws fr to k).td < (strRaw pl ws fr to k).tn * (strRaw pl ws fr to k).fd then strRaw pl ws fr to k else ⟨0, 1, 0, 1⟩
def okStr (pl ws : List Int) (fr to : Int) : Bool := okLine pl && ((decide (ws.length = pl.length) && allIn 20000 ws) && ((withinB fr (-30) 30 && withinB to (-30) 30) && decide (fr < to)))
def strsL (pl ws : List Int) (fr to : Int) : List Str := if okStr pl ws fr to then (List.range pl.length).map (strAt pl ws fr to) else []

/-- the numbers of a stretch are small -/
def Str.Bd (s : Str) : Prop := (-50000 ≤ s.fn ∧ s.fn ≤ 50000) ∧ (1 ≤ s.fd ∧ s.fd ≤ 120) ∧ (-50000 ≤ s.tn ∧ s.tn ≤ 50000) ∧ (1 ≤ s.td ∧ s.td ≤ 120)

theorem sq30 {p : Int} (h : -30 ≤ p ∧ p ≤ 30) : 0 ≤ p * p ∧ p * p ≤ 900 := by
  have h1 : 0 ≤ p * p := by
    rcases Int.le_total 0 p with h2 | h2
    · exact Int.mul_nonneg h2 h2
    · exact Int.mul_nonneg_of_nonpos_of_nonpos h2 h2
  have h2 : 0 ≤ (30 - p) * (30 + p) := Int.mul_nonneg (by omega) (by omega)
  have e : (30 - p) * (30 + p) = 900 - p * p := by
    rw [Int.sub_mul, Int.mul_add, Int.mul_add, Int.mul_comm p 30]; omega
  omega
theorem asc_mono {l : List Int} {n : Nat} (h : ascTo l n) : ∀ (d k : Nat), k + 1 + d < n → l[k]?.getD 0 < l[k + 1 + d]?.getD 0
  | 0, k, hk => by have := h (k + 1) (by omega) (by omega); simpa using this
  | d + 1, k, hk => by
    have h1 := asc_mono h d k (by omega)
    have h2 := h (k + 1 + (d + 1)) (by omega) hk
    have e : k + 1 + (d + 1) - 1 = k + 1 + d := by omega
    rw [e] at h2
    omega
theorem line_lt {l : List Int} (h : okLine l = true) {k i : Nat} (hki : k < i) (hi : i < l.length) : l[k]?.getD 0 < l[i]?.getD 0 := by
  have h1 := asc_mono (okLine_spec h).2.2 (i - (k + 1)) k (by omega)
  rwa [show k + 1 + (i - (k + 1)) = i by omega] at h1
theorem line_in {l : List Int} (h : okLine l = true) {k : Nat} (hk : k < l.length) : -30 ≤ l[k]?.getD 0 ∧ l[k]?.getD 0 ≤ 30 := by
  have := allIn_at (okLine_spec h).2.1 hk
  rwa [List.getElem?_eq_getElem hk, Option.getD_some]
theorem all_in {m : Int} {l : List Int} (h : allIn m l = true) {k : Nat} (hk : k < l.length) : -m ≤ l[k]?.getD 0 ∧ l[k]?.getD 0 ≤ m := by
  have := allIn_at h hk
  rwa [List.getElem?_eq_getElem hk, Option.getD_some]

theorem cutN_bd {pl ws : List Int} (hl : okLine pl = true) (hw : ws.length = pl.length) (hin : allIn 20000 ws = true) {k i : Nat} (hk : k < pl.length) (hi : i < pl.length) : -50000 ≤ cutN pl ws k i ∧ cutN pl ws k i ≤ 50000 := by
  have h1 := sq30 (line_in hl hk)
  have h2 := sq30 (line_in hl hi)
  have h3 := all_in hin (k := k) (by omega)
  have h4 := all_in hin (k := i) (by omega)
  unfold cutN
  omega
theorem cutD_up {pl : List Int} (hl : okLine pl = true) {k i : Nat} (hki : k < i) (hi : i < pl.length) : 2 ≤ cutD pl k i ∧ cutD pl k i ≤ 120 := by
  have h1 := line_lt hl hki hi
  have h2 := line_in hl (k := k) (by omega)
  have h3 := line_in hl hi
  unfold cutD
  omega
theorem cutD_down {pl : List Int} (hl : okLine pl = true) {k i : Nat} (hki : i < k) (hk : k < pl.length) : -120 ≤ cutD pl k i ∧ cutD pl k i ≤ -2 := by
  have h1 := line_lt hl hki hk
  have h2 := line_in hl (k := i) (by omega)
  have h3 := line_in hl hk
  unfold cutD
  omega
theorem cut_rat {pl ws : List Int} (hl : okLine pl = true) (hw : ws.length = pl.length) (hin : allIn 20000 ws = true) {k i : Nat} (hk : k < pl.length) (hi : i < pl.length) (hne : i ≠ k) :
    (-50000 ≤ ratN (cutN pl ws k i) (cutD pl k i) ∧ ratN (cutN pl ws k i) (cutD pl k i) ≤ 50000) ∧ (1 ≤ ratD (cutN pl ws k i) (cutD pl k i) ∧ ratD (cutN pl ws k i) (cutD pl k i) ≤ 120) := by
  refine ⟨ratN_bd (cutN_bd hl hw hin hk hi), ?_⟩
  rcases Nat.lt_or_ge k i with h | h
  · have hd := cutD_up hl h hi
    obtain ⟨_, _, _, _, _, h1, h2⟩ := ratD_pos (n := cutN pl ws k i) (d := cutD pl k i) (by omega)
    omega
  · have hd := cutD_down hl (show i < k by omega) hk
    obtain ⟨_, _, _, _, _, h1, h2⟩ := ratD_pos (n := -(cutN pl ws k i)) (d := -(cutD pl k i)) (by omega)
    rw [ratD_opp _ _ (by omega)] at h1 h2
    omega
theorem cut_bd {pl ws : List Int} (hl : okLine pl = true) (hw : ws.length = pl.length) (hin : allIn 20000 ws = true) {k i : Nat} (hk : k < pl.length) (hi : i < pl.length) {s : Str} (hs : s.Bd) : (cut pl ws k s i).Bd := by
  obtain ⟨h1, h2, h3, h4⟩ := hs
  unfold cut
  by_cases e : i = k
  · rw [if_pos e]; exact ⟨h1, h2, h3, h4⟩
  · obtain ⟨q1, q2⟩ := cut_rat hl hw hin hk hi e
    rw [if_neg e]
    split
    · split
      · exact ⟨h1, h2, q1, q2⟩
      · exact ⟨h1, h2, h3, h4⟩
    · split
      · exact ⟨q1, q2, h3, h4⟩
      · exact ⟨h1, h2, h3, h4⟩
theorem cutTo_bd {pl ws : List Int} (hl : okLine pl = true) (hw : ws.length = pl.length) (hin : allIn 20000 ws = true) {k : Nat} (hk : k < pl.length) {s : Str} (hs : s.Bd) : ∀ i, i ≤ pl.length → (cutTo pl ws k s i).Bd
  | 0, _ => hs
  | i + 1, hi => cut_bd hl hw hin hk (by omega) (cutTo_bd hl hw hin hk hs i (by omega))
/-- products of small numbers -/
theorem mul_bd {a b A B : Int} (ha : -A ≤ a ∧ a ≤ A) (hb : 0 ≤ b ∧ b ≤ B) : -(A * B) ≤ a * b ∧ a * b ≤ A * B := by
  have hA : 0 ≤ A := by omega
  have h1 : a * b ≤ A * b := Int.mul_le_mul_of_nonneg_right ha.2 hb.1
  have h2 : A * b ≤ A * B := Int.mul_le_mul_of_nonneg_left hb.2 hA
  have h3 : (-A) * b ≤ a * b := Int.mul_le_mul_of_nonneg_right ha.1 hb.1
  have h4 : (-A) * b = -(A * b) := Int.neg_mul _ _
  omega
end Go.Proofs.Ytodlbgncdggimaa
