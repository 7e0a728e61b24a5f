/- The walk of WireBack. -/
import Derived.Test.YtkeaijocjbldmaaWireL5
namespace Go.Proofs.Ytkeaijocjbldmaa
open Go.RowKit

theorem askO_wf {o : OpD} (h : o.Wf) : (askO o).Wf := ⟨h.k1, h.k2, h.x1, h.s1, by show -9223372036854775808 ≤ (o.s.size : Int); omega, by have := h.s1; unfold maxLen at this; show (o.s.size : Int) ≤ 9223372036854775807; omega⟩
theorem opTs_all (l : List OpD) : opTs (l.take l.length) = opTs l := by rw [List.take_length]
set_option maxHeartbeats 2000000 in
set_option maxRecDepth 100000 in
theorem wireBack_walk (w : World) (v : Value) (w0 : ∃ (A : Option Addr) (c : Nat) (l : List OpD), v = .slice A l.length c ∧ l.length ≤ maxLen ∧ InOps w A l) :
    Calls Try.prog 7 #[v] w fun e w' => e = .returned (.bool true) ∧ Below w.heap.size w w' := by
  obtain ⟨A, c, l, rfl, hl, hin⟩ := w0
  have KA := hide (fun w => awake04 w)
  have KF := hide (few_any A c l hl w hin)
  unfold maxLen at hl
  have HIN := hide hin
  have HLT := hide (opTs_lt hin)
  clear hin
  go_enter Try.func7, Try.ntmps7
  go_wp2_with fail
  refine KF.out.mono ?_
  rintro e w1 ⟨rfl, rfl⟩
  cases hfew : fewB l with
  | false =>
    clear hfew
    go_wp2_with fail
    refine (KA.out _).mono ?_
    rintro e w2 ⟨rfl, hb2⟩
    go_wp2_with fail
    go_ret
    exact ⟨rfl, hb2⟩
  | true =>
    have HFW := hide (fewB_true hfew)
    clear hfew
    have b0 : Below w.heap.size w (w.alloc (.cells #[.slice none 0 0] 33)) := (Below.refl _ _).alloc (Nat.le_refl _) _
    have hlenA := opTs_take HIN.out HFW.out l.length
    rw [opTs_all] at hlenA
    go_wp2_with fail
    go_loopw [4] (fun iv wr => ∃ (k : Nat) (sv : Value), k ≤ l.length ∧ iv = .int .i64 (k : Int) ∧ Hid (Wr wr w.heap.size w.heap.size sv (opTs (l.take k))) ∧ Below w.heap.size w wr) (fun iv _ => l.length - (intOf iv).toNat)
    case atStart => exact ⟨0, _, by omega, rfl, wr_new w, b0⟩
    case round =>
      obtain ⟨k, sv, hk, rfl, HW, hb⟩ := hrel
      by_cases hlt : k < l.length
      · have hlen := opTs_take HIN.out HFW.out k
        obtain ⟨o, ho⟩ : ∃ o, l[k]? = some o := ⟨_, List.getElem?_eq_getElem hlt⟩
        have hom := List.mem_of_getElem? ho
        obtain ⟨L2, HL2⟩ : ∃ L2, Hid (L2 = opTs (l.take (k + 1))) := ⟨_, rfl⟩
        have HT : Hid (L2 = opTs (l.take k) ++ opT o) := by show _ = _; rw [HL2.out, take_op ho, opTs_snoc]
        obtain ⟨b, of, rfl, hcl⟩ := HIN.out.cells ho
        obtain ⟨c0, c1, c2, c3⟩ := hcl wr hb
        have howf := HIN.out.1 o hom
        have hos := HFW.out.2 o hom
        have KW := hide (write_any w.heap.size w.heap.size sv (opTs (l.take k)) o howf (by omega) wr HW.out (by omega) hb.size)
        rw [← HT.out] at KW
        clear ho hom howf hos hcl hlen
        go_wp2_with fail
        refine KW.out.mono ?_
        rintro e w1 ⟨rfl, sv1, hw1, hs1⟩
        have hb1 := hb.trans (hs1.below HW.out hb.size)
        have HW1 := hide hw1
        clear hw1 hs1 c0 c1 c2 c3
        go_wp2_with fail
        go_roundw
        case rel => exact ⟨k + 1, sv1, by omega, by go_num, by rw [← HL2.out]; exact HW1.out, hb1⟩
        case measure => simp [intOf] <;> omega
      · have hk8 : k = l.length := by omega
        subst hk8
        rw [opTs_all] at HW
        obtain ⟨L, HL⟩ : ∃ L, Hid (L = opTs l) := ⟨_, rfl⟩
        rw [← HL.out] at HW hlenA HLT
        have hSz : (strN L).size ≤ 18600 := by rw [strN_size]; exact hlenA
        have KS := hide (wstring_any _ _ _ _ _ HW.out)
        clear hlt
        go_wp2_with fail
        refine KS.out.mono ?_
        rintro e w3 ⟨rfl, rfl⟩
        go_wp2_with fail
        refine (newr_any _ _).mono ?_
        rintro e w4 ⟨R, rfl, hR, hr1, hb1⟩
        have HR1 := hide hr1
        have hR0 := Nat.le_trans hb.size hR
        have hbb := hb.trans (hb1.mono hb.size)
        clear hr1 hb1
        go_wp2_with fail
        go_loopw [6] (fun iv wr => ∃ (k : Nat), k ≤ l.length ∧ iv = .int .i64 (k : Int) ∧ Hid (Rd wr R (strN L) (opTs (l.take k)).length 0) ∧ Below w.heap.size w wr) (fun iv _ => l.length - (intOf iv).toNat)
        case atStart => exact ⟨0, by omega, rfl, HR1, hbb⟩
        case round =>
          obtain ⟨k, hk, rfl, HR, hb3⟩ := hrel
          have hlenk := opTs_take HIN.out HFW.out k
          by_cases hlt : k < l.length
          · obtain ⟨o, ho⟩ : ∃ o, l[k]? = some o := ⟨_, List.getElem?_eq_getElem hlt⟩
            have hom := List.mem_of_getElem? ho
            have howf := HIN.out.1 o hom
            obtain ⟨rest, hsp⟩ := opTs_split l k o ho
            rw [← HL.out] at hsp
            have hst := stO_back howf HLT.out hsp
            have hple : (opTs (l.take k)).length ≤ (strN L).size := by rw [strN_size, hsp, List.length_append]; omega
            have HT : Hid ((opTs (l.take k) ++ opT o).length = (opTs (l.take (k + 1))).length) := by show _ = _; rw [take_op ho, opTs_snoc]
            obtain ⟨b, of, rfl, hcl⟩ := HIN.out.cells ho
            obtain ⟨c0, c1, c2, c3⟩ := hcl _ hb3
            have KR : Hid (∀ w1, Rd w1 R (strN L) (opTs (l.take k)).length 0 → Calls Try.prog 28 #[.pointer (some ⟨R, 0, none⟩), .agg #[.int .i64 o.k, .int .u64 (o.x : Nat), .string o.s, .int .i64 (o.s.size : Int)]] w1 (RPost R w1 (strN L) (.tuple #[.int .u64 (wantX o : Nat), .string (strN (wantS o))]) (opTs (l.take k) ++ opT o).length 0)) := fun w1 h1 => by
              have := read_any R (strN L) _ 0 (by unfold maxLen; omega) hple (askO o) (askO_wf howf) w1 h1
              rw [hst] at this
              exact this
            rw [HT.out] at KR
            generalize (opTs (l.take k)).length = p at *
            obtain ⟨q, HQ⟩ : ∃ q, Hid (q = (opTs (l.take (k + 1))).length) := ⟨_, rfl⟩
            rw [← HQ.out] at KR
            have hsz1 := howf.s1
            unfold maxLen at hsz1
            have hx64 := howf.x1
            obtain ⟨ok, ox, os, om⟩ := o
            simp only at c0 c1 c2 c3 KR hsz1 hx64
            clear hst hsp ho hom howf hcl HT hple hlenk
            have hRw : R < wr.heap.size := Blk.lt HR.out
            have hbA : Below wr.heap.size wr (wr.alloc (.cells #[.int .i64 ok, .int .u64 (ox : Nat), .string os, .int .i64 (os.size : Int)] 43)) := (Below.refl _ _).alloc (Nat.le_refl _) _
            have hb4 := hb3.trans (hbA.mono hb3.size)
            have HR4 := hide (HR.out.below hbA)
            have HB4 := hide (Blk.new wr #[.int .i64 ok, .int .u64 (ox : Nat), .string os, .int .i64 (os.size : Int)] 43)
            unfold wantX wantS at KR
            simp only at KR
            by_cases e0 : ok = 0
            · subst e0
              rw [if_pos rfl, if_pos (by omega), strN_nil] at KR
              go_wp2_with fail
              refine (KR.out _ HR4.out).mono ?_
              rintro e w5 ⟨rfl, hr5, hf5⟩
              have hB5 := HB4.out.fr hf5 (by omega)
              have d0 := hB5.cell 0
              have d1 := hB5.cell 1
              have d2 := hB5.cell 2
              simp at d0 d1 d2
              have hb5 := hb4.trans (hf5.belowR hb4.size hR0)
              have HR5 := hide hr5
              clear hr5 hf5 hB5 c0 c1 c2 c3
              go_wp2_with fail
              refine (rerr_any _ _ _ _ _ HR5.out).mono ?_
              rintro e w6 ⟨rfl, rfl⟩
              go_wp2_with fail
              go_roundw
              case rel => exact ⟨k + 1, by omega, by go_num, by rw [← HQ.out]; exact HR5.out, hb5⟩
              case measure => simp [intOf] <;> omega
            rw [if_neg e0] at KR
            have b0' : (ok == 0) = false := by rw [beq_eq_false_iff_ne]; exact e0
            by_cases e1 : ok = 1
            · subst e1
              rw [if_pos rfl, if_pos (by omega), strN_nil] at KR
              go_wp2_with fail
              refine (KR.out _ HR4.out).mono ?_
              rintro e w5 ⟨rfl, hr5, hf5⟩
              have hB5 := HB4.out.fr hf5 (by omega)
              have d0 := hB5.cell 0
              have d1 := hB5.cell 1
              have d2 := hB5.cell 2
              simp at d0 d1 d2
              have hb5 := hb4.trans (hf5.belowR hb4.size hR0)
              have HR5 := hide hr5
              clear hr5 hf5 hB5 c0 c1 c2 c3 e0
              go_wp2_with fail
              refine (rerr_any _ _ _ _ _ HR5.out).mono ?_
              rintro e w6 ⟨rfl, rfl⟩
              go_wp2_with fail
              go_roundw
              case rel => exact ⟨k + 1, by omega, by go_num, by rw [← HQ.out]; exact HR5.out, hb5⟩
              case measure => simp [intOf] <;> omega
            rw [if_neg e1] at KR
            have b1' : (ok == 1) = false := by rw [beq_eq_false_iff_ne]; exact e1
            by_cases e24 : 0 ≤ ok ∧ ok ≤ 4
            · have KX : Hid ((if ok = 2 then ox else if ok = 3 then ox else if ok = 4 then ox else 0) = ox) := by
                show _ = _
                by_cases h2 : ok = 2
                · rw [if_pos h2]
                · by_cases h3 : ok = 3
                  · rw [if_neg h2, if_pos h3]
                  · rw [if_neg h2, if_neg h3, if_pos (by omega)]
              rw [KX.out, if_pos e24, strN_nil] at KR
              obtain ⟨hk0, hk4⟩ := e24
              have dn : decide (ok < 0) = false := by rw [decide_eq_false_iff_not]; omega
              have d4 : decide (4 < ok) = false := by rw [decide_eq_false_iff_not]; omega
              clear e0 e1 KX
              go_wp2_with fail
              refine (KR.out _ HR4.out).mono ?_
              rintro e w5 ⟨rfl, hr5, hf5⟩
              have hB5 := HB4.out.fr hf5 (by omega)
              have d0 := hB5.cell 0
              have d1 := hB5.cell 1
              have d2 := hB5.cell 2
              simp at d0 d1 d2
              have hb5 := hb4.trans (hf5.belowR hb4.size hR0)
              have HR5 := hide hr5
              clear hr5 hf5 hB5 c0 c1 c2 c3
              go_wp2_with fail
              refine (rerr_any _ _ _ _ _ HR5.out).mono ?_
              rintro e w6 ⟨rfl, rfl⟩
              go_wp2_with fail
              go_roundw
              case rel => exact ⟨k + 1, by omega, by go_num, by rw [← HQ.out]; exact HR5.out, hb5⟩
              case measure => simp [intOf] <;> omega
            · rw [if_neg (by omega), if_neg (by omega), if_neg (by omega), if_neg e24, strN_bn] at KR
              have hor : ok < 0 ∨ 4 < ok := by omega
              clear e0 e1 e24
              rcases hor with hn | h4
              all_goals
                go_wp2_with fail
                refine (KR.out _ HR4.out).mono ?_
                rintro e w5 ⟨rfl, hr5, hf5⟩
                have hB5 := HB4.out.fr hf5 (by omega)
                have d0 := hB5.cell 0
                have d1 := hB5.cell 1
                have d2 := hB5.cell 2
                simp at d0 d1 d2
                have hb5 := hb4.trans (hf5.belowR hb4.size hR0)
                have HR5 := hide hr5
                clear hr5 hf5 hB5 c0 c1 c2 c3
                go_wp2_with fail
                refine (rerr_any _ _ _ _ _ HR5.out).mono ?_
                rintro e w6 ⟨rfl, rfl⟩
                go_wp2_with fail
                go_roundw
                case rel => exact ⟨k + 1, by omega, by go_num, by rw [← HQ.out]; exact HR5.out, hb5⟩
                case measure => simp [intOf] <;> omega
          · have hk8 : k = l.length := by omega
            subst hk8
            rw [opTs_all, ← HL.out] at HR
            have KD := hide (rdone_any R (strN L) L.length 0 (by unfold maxLen; omega) (by rw [strN_size]; exact Nat.le_refl _) wr HR.out)
            rw [if_pos rfl, if_neg (by rw [strN_size]; omega)] at KD
            go_wp2_with fail
            refine KD.out.mono ?_
            rintro e w6 ⟨rfl, hb6⟩
            have hb7 := hb3.trans (hb6.mono hb3.size)
            go_wp2_with fail
            refine (KA.out _).mono ?_
            rintro e w8 ⟨rfl, hb8⟩
            go_wp2_with fail
            go_ret
            exact ⟨rfl, hb7.trans (hb8.mono hb7.size)⟩
end Go.Proofs.Ytkeaijocjbldmaa
