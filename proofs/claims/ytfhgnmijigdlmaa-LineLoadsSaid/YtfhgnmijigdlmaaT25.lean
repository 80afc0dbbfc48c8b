/- The iterator of the units; Place of the program. -/
import Derived.OwnWalkIn
import Derived.TacticsInMore
import Derived.LoopNIn
import Derived.LoopIn
import Derived.Test.YtfhgnmijigdlmaaRngF
import Derived.Test.YtfhgnmijigdlmaaT20
namespace Go.Proofs.Ytfhgnmijigdlmaa
open Go.RowKit
attribute [local go_sem] GW.cell Oper.semAt_some wide_depth
theorem un_prefix {l : List Atom} {k q : Nat} (hk : k < l.length) (hq : q < l[k].m.toNat) : un l k (q + 1) <+: unitsL l := by
  have e1 : unitsL l = un l (k + 1) 0 ++ unitsL (l.drop (k + 1)) := by
    have : unitsL l = unitsL (l.take (k + 1) ++ l.drop (k + 1)) := by rw [List.take_append_drop]
    rw [this, units_app]
    simp [un]
  rw [e1, ← un_next hk]
  refine List.IsPrefix.trans ?_ (List.prefix_append _ _)
  unfold un
  have e2 : List.replicate l[k].m.toNat (atK l k).p = List.replicate (q + 1) (atK l k).p ++ List.replicate (l[k].m.toNat - (q + 1)) (atK l k).p := by
    rw [List.replicate_append_replicate]; congr 1; omega
  rw [e2, ← List.append_assoc]
  exact List.prefix_append _ _
theorem un_at {l : List Atom} {k q : Nat} (hk : k < l.length) (hq : q < l[k].m.toNat) : (un l k q).length < (unitsL l).length ∧ gi (unitsL l) (un l k q).length = l[k].p := by
  obtain ⟨r, hr⟩ := un_prefix hk hq
  rw [un_succ hk, List.append_assoc] at hr
  rw [← hr]
  constructor
  · simp
  · unfold gi; simp
def unE (l : List Atom) (k : Nat) : Array Value := #[.int .i64 k, .int .i64 (gi (unitsL l) k)]
theorem ext_grown {a b : World} (h : Ext a b) : a.grownBy b none := ⟨h.os, h.tape, h.output, h.size, fun i hi _ => h.block i hi⟩
theorem BlkC.far {X Y : World} {B base : Nat} {cs : Array Value} {T : TypeId} (h : BlkC X B cs T) (hF : FarK base X Y) (hB : base ≤ B) : BlkC Y B cs T := (hF.2 B hB h.lt).trans h
set_option maxRecDepth 100000 in
set_option maxHeartbeats 4000000 in
theorem f116_seq (a : Option Addr) (c : Nat) (l : List Atom) (hF : Fine l) (B : Nat) :
    SeqF Try.prog 116 #[.pointer (some ⟨B, 0, none⟩)] (unE l) (unitsL l).length (fun W => W.cell? ⟨B, 0, none⟩ = some (.slice a l.length c) ∧ B < W.heap.size ∧ Atoms W a l) := by
  intro ll J Jx W hJ hJx hK hY h0
  obtain ⟨hc1, hb1, hI1⟩ := hK _ _ h0
  have h40 := hF.1
  have HF := Lib.hid hF
  have Hun := Lib.hid (fun k (hk : k < l.length) => un_next hk)
  have Hat := Lib.hid (fun k (hk : k < l.length) q (hq : q < l[k].m.toNat) => un_at hk hq)
  have Hle := Lib.hid (fun k (hk : k < l.length) q (hq : q ≤ l[k].m.toNat) => un_len hF hk hq)
  have Hss := Lib.hid (fun k (hk : k < l.length) q => un_succ hk q)
  have Hz : Hid ((un l 0 0).length = 0) := Lib.hid (by rw [un_zero]; rfl)
  have He : Hid ((un l l.length 0).length = (unitsL l).length) := Lib.hid (by rw [un_end])
  clear hF
  refine callsIn_of_wp Try.func116 rfl trivial ?_ rfl
  simp only [Try.ntmps116, List.size_toArray, List.length_cons, List.length_nil, Nat.reduceAdd, Nat.reduceSub, Array.replicate_succ, Array.replicate_zero, List.push_toArray, List.append_toArray, List.nil_append, List.cons_append]
  gi_wp2
  gi_loopw [3, 8] (fun x p wr => ∃ k : Nat, k ≤ l.length ∧ x = .int .i64 ((un l k 0).length : Nat) ∧ p = .int .i64 k ∧ J (un l k 0).length wr ∧ W.heap.size ≤ wr.heap.size)
    (fun _ p _ => l.length - (intOf p).toNat)
  case atStart => exact ⟨0, by omega, by rw [Hz.out]; rfl, rfl, by rw [Hz.out]; exact h0, Nat.le_refl _⟩
  case round =>
    obtain ⟨k, hk, rfl, rfl, hj, hsz⟩ := hrel
    generalize wr = wo at *
    by_cases hlt : k < l.length
    · obtain ⟨hd1, hd2, hI⟩ := hK _ _ hj
      obtain ⟨b, off, rfl, hb, hx, hy⟩ := hI k hlt
      have hm := HF.out.2 k hlt
      have Hn := Lib.hid (Hun.out k hlt)
      have HA := Lib.hid (Hat.out k hlt)
      have HL := Lib.hid (Hle.out k hlt)
      have HS := Lib.hid (Hss.out k hlt)
      generalize l[k].p = pp at *
      generalize l[k].m = mm at *
      have HB := Lib.hid (BlkC.new wo #[.int .i64 pp, .int .i64 mm] 50)
      have hjn := hJ _ _ _ hj (ext_grown (ext_alloc wo (.cells #[.int .i64 pp, .int .i64 mm] 50)))
      have hsn : W.heap.size ≤ (wo.alloc (.cells #[.int .i64 pp, .int .i64 mm] 50)).heap.size := by simp; omega
      gi_wp2
      generalize (wo.alloc (.cells #[.int .i64 pp, .int .i64 mm] 50)) = wn at *
      generalize hBx : wo.heap.size = Bx at *
      gi_loopw [3, 14] (fun x p wi => ∃ q : Nat, q ≤ mm.toNat ∧ x = .int .i64 ((un l k q).length : Nat) ∧ p = .int .i64 q ∧ J (un l k q).length wi ∧ W.heap.size ≤ wi.heap.size ∧ Hid (BlkC wi Bx #[.int .i64 pp, .int .i64 mm] 50))
        (fun _ p _ => mm.toNat - (intOf p).toNat)
      case atStart => exact ⟨0, by omega, rfl, rfl, hjn, hsn, HB⟩
      case round =>
        obtain ⟨q, hq, rfl, rfl, hji, hsi, HBi⟩ := hrel
        generalize wr = wi at *
        by_cases hlq : q < mm.toNat
        · have hqm : (q : Int) < mm := by omega
          have dq : decide ((q : Int) < mm) = true := by simpa using hqm
          obtain ⟨u1, u2⟩ := HA.out q hlq
          have ul := HL.out q (by omega)
          have us := Lib.hid (HS.out q)
          obtain ⟨fn, tmps, assign, body, hy', hR⟩ := hY _ _ hji u1
          try simp only [unE] at hy'
          have hR2 := hR.mono (R' := fun e X => ∃ b : Bool, e = .returned (.bool b) ∧ Hid (if b then (J ((un l k q).length + 1) X ∧ FarK W.heap.size wi X) else Jx ((un l k q).length + 1) X)) (by
            rintro e X (⟨rfl, h⟩ | ⟨rfl, h⟩)
            · exact ⟨true, rfl, h⟩
            · exact ⟨false, rfl, h⟩)
          try simp only [unE] at hR2
          clear hR
          rw [u2] at hy'
          have g0 := HBi.out.cellv 0 (v := .int .i64 pp) rfl
          clear u2
          have HU1 := Lib.hid u1
          have HBlt := HBi.out.lt
          gi_wp2
          refine hR2.mono ?_
          rintro e W3 ⟨bb, rfl, hbb⟩
          cases bb with
          | true =>
            obtain ⟨hj3, hf3⟩ : J ((un l k q).length + 1) W3 ∧ FarK W.heap.size wi W3 := hbb.out
            have HB3 := Lib.hid (HBi.out.far hf3 (by omega))
            have hs3 := hf3.1
            have e3 : (un l k (q + 1)).length = (un l k q).length + 1 := by rw [us.out]; simp
            have hj4 : J (un l k (q + 1)).length W3 := by rw [e3]; exact hj3
            have E3 := Lib.hid e3
            clear e3 hj3
            gi_wp2
            go_roundw
            case rel => exact ⟨q + 1, by omega, by rw [E3.out]; go_num, by go_num, hj4, by omega, HB3⟩
            case measure => simp [intOf]; omega
          | false =>
            have hj3 : Jx ((un l k q).length + 1) W3 := hbb.out
            gi_wp2
            refine bodyPost_ret (results_none rfl _ _ _) rfl ?_
            exact ⟨⟨_, rfl⟩, .inr ⟨_, HU1.out, hj3⟩⟩
        · obtain rfl : q = mm.toNat := by omega
          have hqm : ¬ ((mm.toNat : Nat) : Int) < mm := by omega
          have dq : decide (((mm.toNat : Nat) : Int) < mm) = false := by simpa using hqm
          have hj5 : J (un l (k + 1) 0).length wi := by rw [← Hn.out]; exact hji
          gi_wp2
          go_roundw
          case rel => exact ⟨k + 1, by omega, by rw [Hn.out], by go_num, hj5, hsi⟩
          case measure => simp [intOf]; omega
    · obtain rfl : k = l.length := by omega
      have hjE : J (unitsL l).length wo := by rw [← He.out]; exact hj
      gi_wp2
      go_end0
      exact ⟨⟨_, rfl⟩, .inl hjE⟩
set_option maxHeartbeats 2000000 in
theorem f89_c (a : Option Addr) (n c : Nat) (w : World) :
    Calls Try.prog 89 #[.slice a n c] w fun e w' => e = .returned (.func (.func 116) #[] #[.pointer (some ⟨w.heap.size, 0, none⟩)]) ∧ w' = w.alloc (.cells #[.slice a n c] 22) := by
  go_enter Try.func89, Try.ntmps89
  go_wp2_with fail
  go_ret
  exact ⟨rfl, rfl⟩
end Go.Proofs.Ytfhgnmijigdlmaa
