/- The walk of WireCut. -/
import Derived.Test.YtkeaijocjbldmaaWireL6
import Derived.Test.YtkeaijocjbldmaaWireL4
namespace Go.Proofs.Ytkeaijocjbldmaa
open Go.RowKit Go.ChangeShapes Go.WideShapes

section
variable {w w' : World} {B B2 n n2 sz sz2 : Nat} {e e2 : TypeId} {v v2 : Value} {xs xs2 : List Value}
/-- Rows of one's own of any element type. -/
theorem own_ne_blk (h : w.ownsRow B e sz v n xs) {b : Nat} {t : TypeId} {cs : Array Value} (hb : Blk w b t cs) (ht : t ≠ e) : v.ownBlock ≠ some b := by
  intro hk
  rcases h.2 with ⟨rfl, hn⟩ | ⟨g, cap, cur, rfl, _, hg, _⟩
  · simp [Value.ownBlock] at hk
  · simp [Value.ownBlock] at hk
    subst hk
    unfold Blk at hb
    rw [hb] at hg
    injection hg with hg
    injection hg with _ h2
    exact ht h2
theorem own_ne_own (h : w.ownsRow B e sz v n xs) (h2 : w.ownsRow B2 e2 sz2 v2 n2 xs2) (ht : e ≠ e2) (k : Nat) (hk : v.ownBlock = some k) : v2.ownBlock ≠ some k := by
  intro hk2
  rcases h.2 with ⟨rfl, hn⟩ | ⟨g, cap, cur, rfl, _, hg, _⟩
  · simp [Value.ownBlock] at hk
  · simp [Value.ownBlock] at hk
    subst hk
    rcases h2.2 with ⟨rfl, hn⟩ | ⟨g2, cap2, cur2, rfl, _, hg2, _⟩
    · simp [Value.ownBlock] at hk2
    · simp [Value.ownBlock] at hk2
      subst hk2
      rw [hg] at hg2
      injection hg2 with hg2
      injection hg2 with _ h3
      exact ht h3
theorem own_fr {P : Nat → Prop} (h : w.ownsRow B e sz v n xs) (hf : Fr w w' P) (hp : ∀ k, v.ownBlock = some k → ¬ P k) : w'.ownsRow B e sz v n xs := by
  refine ⟨h.1, ?_⟩
  rcases h.2 with hn | ⟨g, cap, cur, hv, hb, hg, rest⟩
  · exact .inl hn
  · refine .inr ⟨g, cap, cur, hv, hb, ?_, rest⟩
    rw [hf.block g (Array.getElem?_eq_some_iff.1 hg).1 (hp g (by rw [hv]; rfl))]; exact hg
theorem own_below (h : w.ownsRow B e sz v n xs) (hb : Below w.heap.size w w') : w'.ownsRow B e sz v n xs := own_fr h (Fr.of_below hb (fun _ => False)) (fun _ _ h => h)
end
theorem own_addr {w : World} {B : Nat} {e : TypeId} {v : Value} {n : Nat} {xs : List Value} (h : w.ownsRow B e 1 v n xs) (hn : 0 < n) : ∃ g cap, v = .slice (some ⟨g, 0, none⟩) n cap := by
  rcases h.2 with ⟨rfl, h0⟩ | ⟨g, cap, cur, rfl, _⟩
  · omega
  · exact ⟨g, cap, rfl⟩
/-- Where each call's bytes end. -/
def endsL (l : List OpD) (k : Nat) : List Value := (List.range k).map fun j => Value.int .i64 ((opTs (l.take (j + 1))).length : Nat)
theorem endsL_succ (l : List OpD) (k : Nat) : endsL l (k + 1) = endsL l k ++ [.int .i64 ((opTs (l.take (k + 1))).length : Nat)] := by simp [endsL, List.range_succ]
theorem endsL_get (l : List OpD) {k n : Nat} (h : k < n) : (endsL l n)[k]? = some (.int .i64 ((opTs (l.take (k + 1))).length : Nat)) := by simp [endsL, h]
theorem info_int : (Try.prog.info? 3).map (fun i => (i.zero, i.size, i.bytes)) = some (some (.int .i64 0), 1, 8) := by kernel_rfl
/-- What a reader of a beginning reads at the place of a call. -/
theorem stO_cut1 {L pre rest : List Nat} {o : OpD} {c : Nat} (ho : o.Wf) (hL : ∀ b ∈ L, b < 256) (h : L = pre ++ (opT o ++ rest)) (hc : (pre ++ opT o).length ≤ c) : stO (strN (L.take c)) pre.length 0 (askO o) = (wantX o, wantS o, (pre ++ opT o).length, 0) := by
  refine stO_back (rest := rest.take (c - (pre ++ opT o).length)) ho (fun b hb => hL b (List.mem_of_mem_take hb)) ?_
  rw [h, ← List.append_assoc, List.take_append, List.take_of_length_le hc, List.append_assoc]
theorem stO_cut2 {L pre rest : List Nat} {o : OpD} {c : Nat} (ho : o.Wf) (hL : ∀ b ∈ L, b < 256) (h : L = pre ++ (opT o ++ rest)) (hp : pre.length ≤ c) (hc : c < (pre ++ opT o).length) : (stO (strN (L.take c)) pre.length 0 (askO o)).2.2.2 = 10 := by
  unfold stO
  rw [if_pos rfl, bn_strN _ (fun b hb => hL b (List.mem_of_mem_take hb))]
  have h1 : (L.take c).drop pre.length = (opT o).take (c - pre.length) := by
    rw [h, List.drop_take, List.drop_left, List.take_append_of_le_length]
    rw [List.length_append] at hc
    omega
  rw [h1]
  exact opR_cut o ho _ (by rw [List.length_append] at hc; omega)
set_option maxHeartbeats 2000000 in
set_option maxRecDepth 100000 in
theorem wireCut_walk (w : World) (v : Value) (w0 : ∃ (A : Option Addr) (c : Nat) (l : List OpD), v = .slice A l.length c ∧ l.length ≤ maxLen ∧ InOps w A l) (cut : Int) (w1 : (Lit.int .i64 cut).wf = true) :
    Calls Try.prog 6 #[v, .int .i64 cut] w fun e w' => e = .returned (.bool true) ∧ Below w.heap.size w w' := by
  obtain ⟨A, c, l, rfl, hl, hin⟩ := w0
  have hcw := bounds_i64 w1
  clear w1
  have KA := hide (fun w => awake04 w)
  have KF := hide (few_any A c l hl w hin)
  unfold maxLen at hl
  have HIN := hide hin
  have HLT := hide (opTs_lt hin)
  clear hin
  obtain ⟨i0, hi, hz0, hz1, hz2⟩ := info_parts info_int
  go_enter Try.func6, Try.ntmps6
  go_wp2_with fail
  refine KF.out.mono ?_
  rintro e w1 ⟨rfl, rfl⟩
  cases hfew : fewB l with
  | false =>
    clear hfew
    go_wp2_with fail
    refine (KA.out _).mono ?_
    rintro e w2 ⟨rfl, hb2⟩
    go_wp2_with fail
    go_ret
    exact ⟨rfl, hb2⟩
  | true =>
    have HFW := hide (fewB_true hfew)
    clear hfew
    have hl60 := HFW.out.1
    have b0 : Below w.heap.size w (w.alloc (.cells #[.slice none 0 0] 33)) := (Below.refl _ _).alloc (Nat.le_refl _) _
    have hlenA := opTs_take HIN.out HFW.out l.length
    rw [opTs_all] at hlenA
    go_wp2_with fail
    go_loopw [6, 7] (fun ev iv wr => ∃ (k : Nat) (sv : Value), k ≤ l.length ∧ iv = .int .i64 (k : Int) ∧ Hid (Wr wr w.heap.size w.heap.size sv (opTs (l.take k))) ∧ wr.ownsRow w.heap.size 3 1 ev k (endsL l k) ∧ Below w.heap.size w wr) (fun _ iv _ => l.length - (intOf iv).toNat)
    case atStart => exact ⟨0, _, by omega, rfl, wr_new w, World.ownsRow_nil _ _ _ _, b0⟩
    case round =>
      obtain ⟨k, sv, hk, rfl, HW, hown, hb⟩ := hrel
      by_cases hlt : k < l.length
      · have hlen := opTs_take HIN.out HFW.out k
        have hlen2 := opTs_take HIN.out HFW.out (k + 1)
        obtain ⟨o, ho⟩ : ∃ o, l[k]? = some o := ⟨_, List.getElem?_eq_getElem hlt⟩
        have hom := List.mem_of_getElem? ho
        have HES := hide (endsL_succ l k)
        obtain ⟨L2, HL2⟩ : ∃ L2, Hid (L2 = opTs (l.take (k + 1))) := ⟨_, rfl⟩
        rw [← HL2.out] at hlen2 HES
        have HT : Hid (L2 = opTs (l.take k) ++ opT o) := by show _ = _; rw [HL2.out, take_op ho, opTs_snoc]
        obtain ⟨b, of, rfl, hcl⟩ := HIN.out.cells ho
        obtain ⟨c0, c1, c2, c3⟩ := hcl wr hb
        have howf := HIN.out.1 o hom
        have hos := HFW.out.2 o hom
        have KW := hide (write_any w.heap.size w.heap.size sv (opTs (l.take k)) o howf (by omega) wr HW.out (by omega) hb.size)
        rw [← HT.out] at KW
        clear ho hom howf hos hcl hlen
        obtain ⟨Ae, ce, rfl⟩ := own_form hown
        go_wp2_with fail
        refine KW.out.mono ?_
        rintro e w1 ⟨rfl, sv1, hw1, hs1⟩
        have hb1 := hb.trans (hs1.below HW.out hb.size)
        have hown1 := own_fr hown hs1.fr (by
          rintro j hj (rfl | e2)
          · exact own_ne_blk hown HW.out.blk (by decide) hj
          · exact own_ne_own hown HW.out.own (by decide) j hj e2.symm)
        have HW1 := hide hw1
        clear hw1 hs1 c0 c1 c2 c3 hown
        go_wp2_with fail
        refine (wlen_any _ _ _ _ _ HW1.out).mono ?_
        rintro e w2 ⟨rfl, rfl⟩
        go_wp2_with (at_builtin; refine wpList_append_own _ rfl _ _ 50 rfl w.heap.size 3 i0 (.int .i64 0) 1 8 Try.underlying50 hi hz0 hz1 hz2 rfl (by decide) _ _ _ rfl (hown1.alloc _) ⟨w1.heap.size, 0, none⟩ 1 1 [.int .i64 (L2.length : Nat)] rfl rfl (cell_one_new _ _ _) (by simp [Value.oneCell']) (by simp only [maxLen]; omega) (by omega) (by simpa using Nat.le_succ_of_le hb1.size) ?_; intro v' w3 hown3 hgrow3 _)
        have hb3 : Below w.heap.size w w3 := (hb1.alloc hb1.size _).grown hgrow3 (by simpa using Nat.le_succ_of_le hb1.size) (fun k hk => (hown1.lt k hk).1)
        have HW3 : Hid (Wr w3 w.heap.size w.heap.size sv1 L2) := by
          have hal : Below w1.heap.size w1 (w1.alloc (.cells #[.int .i64 (L2.length : Nat)] 3)) := (Below.refl _ _).alloc (Nat.le_refl _) _
          have hw := HW1.out.below hal
          have ho1 := hown1.alloc (.cells #[.int .i64 (L2.length : Nat)] 3)
          refine ⟨hw.blk.fr (Fr.of_grown hgrow3) ?_, hw.own.fr (Fr.of_grown hgrow3) ?_, hw.leW⟩
          · intro e2
            exact own_ne_blk ho1 hw.blk (by decide) e2.symm
          · intro j hj e2
            exact own_ne_own ho1 hw.own (by decide) j e2.symm hj
        have hown4 : w3.ownsRow w.heap.size 3 1 v' (k + 1) (endsL l (k + 1)) := by rw [HES.out]; exact hown3
        clear hown3 hgrow3 hown1 hb1
        go_roundw
        case rel => exact ⟨k + 1, sv1, by omega, by go_num, by rw [← HL2.out]; exact HW3, hown4, hb3⟩
        case measure => simp [intOf] <;> omega
      · have hk8 : k = l.length := by omega
        subst hk8
        rw [opTs_all] at HW
        obtain ⟨L, HL⟩ : ∃ L, Hid (L = opTs l) := ⟨_, rfl⟩
        rw [← HL.out] at HW hlenA HLT
        have hSz : (strN L).size = L.length := strN_size L
        have KS := hide (wstring_any _ _ _ _ _ HW.out)
        have KL := hide (wlen_any _ _ _ _ _ HW.out)
        have HOWN := hide hown
        obtain ⟨Ae, ce, rfl⟩ := own_form hown
        clear hlt hown
        by_cases hneg : cut < 0
        · go_wp2_with fail
          refine (KA.out _).mono ?_
          rintro e w2 ⟨rfl, hb2⟩
          go_wp2_with fail
          go_ret
          exact ⟨rfl, hb.trans (hb2.mono hb.size)⟩
        obtain ⟨cc, rfl⟩ : ∃ cc : Nat, cut = cc := ⟨cut.toNat, by omega⟩
        by_cases hbig : L.length < cc
        · go_wp2_with fail
          refine KL.out.mono ?_
          rintro e w2 ⟨rfl, rfl⟩
          go_wp2_with fail
          refine (KA.out _).mono ?_
          rintro e w2 ⟨rfl, hb2⟩
          go_wp2_with fail
          go_ret
          exact ⟨rfl, hb.trans (hb2.mono hb.size)⟩
        have hd0 : decide ((cc : Int) < 0) = false := by rw [decide_eq_false_iff_not]; omega
        have hd1 : decide (L.length < cc) = false := by rw [decide_eq_false_iff_not]; omega
        have hd2 : decide ((L.length : Int) < (cc : Int)) = false := by rw [decide_eq_false_iff_not]; omega
        have HX : Hid ((strN L).extract 0 cc = strN (L.take cc)) := by
          show _ = _
          have := extract_strN (strN L) 0 cc (by rw [hSz]; omega)
          rw [Nat.zero_add, List.drop_zero, bn_strN L HLT.out] at this
          exact this
        have hS2 : (strN (L.take cc)).size = cc := by rw [strN_size, List.length_take]; omega
        obtain ⟨S2, HS2⟩ : ∃ S2, Hid (S2 = strN (L.take cc)) := ⟨_, rfl⟩
        rw [← HS2.out] at HX hS2
        have hx := HX.out
        go_wp2_with fail
        refine KL.out.mono ?_
        rintro e w2 ⟨rfl, rfl⟩
        go_wp2_with fail
        refine KS.out.mono ?_
        rintro e w2 ⟨rfl, rfl⟩
        go_wp2_with fail
        refine KL.out.mono ?_
        rintro e w2 ⟨rfl, rfl⟩
        go_wp2_with fail
        refine (newr_any _ _).mono ?_
        rintro e w4 ⟨R, rfl, hR, hr1, hb1⟩
        have HR1 := hide hr1
        have hR0 := Nat.le_trans hb.size hR
        have hbb := hb.trans (hb1.mono hb.size)
        have HO1 := hide (own_below HOWN.out hb1)
        clear hr1 hb1
        go_wp2_with fail
        go_loopw [10] (fun iv wr => ∃ (k : Nat), k ≤ l.length ∧ iv = .int .i64 (k : Int) ∧ Hid (Rd wr R S2 (opTs (l.take k)).length 0) ∧ Hid ((opTs (l.take k)).length ≤ cc) ∧ Hid (wr.ownsRow w.heap.size 3 1 (.slice Ae l.length ce) l.length (endsL l l.length)) ∧ Below w.heap.size w wr) (fun iv _ => l.length - (intOf iv).toNat)
        case atStart => exact ⟨0, by omega, rfl, HR1, by show (opTs []).length ≤ cc; simp [opTs], HO1, hbb⟩
        case round =>
          obtain ⟨k, hk, rfl, HR, HPC, HO, hb3⟩ := hrel
          have hpc := HPC.out
          have hlenk := opTs_take HIN.out HFW.out k
          have hlenk1 := opTs_take HIN.out HFW.out (k + 1)
          by_cases hlt : k < l.length
          · obtain ⟨o, ho⟩ : ∃ o, l[k]? = some o := ⟨_, List.getElem?_eq_getElem hlt⟩
            have hom := List.mem_of_getElem? ho
            have howf := HIN.out.1 o hom
            obtain ⟨rest, hsp⟩ := opTs_split l k o ho
            rw [← HL.out] at hsp
            have hple : (opTs (l.take k)).length ≤ S2.size := by rw [hS2]; exact hpc
            have hTe : (opTs (l.take k) ++ opT o) = (opTs (l.take (k + 1))) := by rw [take_op ho, opTs_snoc]
            have hst1 := fun hc => stO_cut1 (c := cc) howf HLT.out hsp hc
            have hst2 := fun hc => stO_cut2 (c := cc) howf HLT.out hsp hpc hc
            rw [hTe, ← HS2.out] at hst1 hst2
            have hRA := fun w1 (h1 : Rd w1 R S2 (opTs (l.take k)).length 0) => read_any R S2 _ 0 (by unfold maxLen; omega) hple (askO o) (askO_wf howf) w1 h1
            have hge := endsL_get l hlt
            obtain ⟨g, cap, hsl⟩ := own_addr HO.out (by omega)
            injection hsl with hA _ hce
            subst hA hce
            have hce := (HO.out.cellAt k (by omega)).trans hge
            have hgR : g ≠ R := fun e2 => own_ne_blk HO.out HR.out (by decide) (by rw [← e2]; rfl)
            have hgl := (World.ownsRow.lt HO.out g rfl).2
            obtain ⟨b, of, rfl, hcl⟩ := HIN.out.cells ho
            obtain ⟨c0, c1, c2, c3⟩ := hcl _ hb3
            obtain ⟨q, HQ⟩ : ∃ q, Hid (q = (opTs (l.take (k + 1))).length) := ⟨_, rfl⟩
            rw [← HQ.out] at hst1 hst2 hce hlenk1
            generalize (opTs (l.take k)).length = p at *
            have hsz1 := howf.s1
            unfold maxLen at hsz1
            obtain ⟨ok, ox, os, om⟩ := o
            unfold askO at hst1 hst2 hRA
            simp only at c0 c1 c2 c3 hst1 hst2 hRA hsz1
            clear hsp ho hom howf hcl hple hlenk hTe hge
            have hRw : R < wr.heap.size := Blk.lt HR.out
            have hbA : Below wr.heap.size wr (wr.alloc (.cells #[.int .i64 ok, .int .u64 (ox : Nat), .string os, .int .i64 (os.size : Int)] 43)) := (Below.refl _ _).alloc (Nat.le_refl _) _
            have hb4 := hb3.trans (hbA.mono hb3.size)
            have HR4 := hide (HR.out.below hbA)
            have HO4 := hide (own_below HO.out hbA)
            have hcA : (wr.alloc (.cells #[.int .i64 ok, .int .u64 (ox : Nat), .string os, .int .i64 (os.size : Int)] 43)).cell? ⟨g, k, none⟩ = some (.int .i64 (q : Nat)) := (hbA.cell (p := ⟨g, k, none⟩) hgl).trans hce
            have HCA := hide hcA
            clear hcA hce
            by_cases hqc : q ≤ cc
            · have hst := hst1 hqc
              rw [hst] at hRA
              have KR := hide hRA
              clear hst hst1 hst2 hRA
              have hdq : decide ((cc : Int) < (q : Int)) = false := by rw [decide_eq_false_iff_not]; omega
              have hdq2 : decide (cc < q) = false := by rw [decide_eq_false_iff_not]; omega
              go_wp2_with fail
              refine (KR.out _ HR4.out).mono ?_
              rintro e w5 ⟨rfl, hr5, hf5⟩
              have hb5 := hb4.trans (hf5.belowR hb4.size hR0)
              have hc5 : w5.cell? ⟨g, k, none⟩ = some (.int .i64 (q : Nat)) := (World.cell?_of_block (hf5.block g (by simp; omega) hgR)).trans HCA.out
              have HO5 := hide (own_fr HO4.out hf5 (by rintro j hj rfl; simp [Value.ownBlock] at hj; exact hgR hj))
              have HR5 := hide hr5
              clear hr5 hf5 c0 c1 c2 c3
              have KE := hide (fun n => rerr_any R S2 q 0 (w5.drewN n) (Blk.drewN HR5.out n))
              have KT := hide (fun n => rat_any R S2 q 0 (w5.drewN n) (Blk.drewN HR5.out n))
              have hki : (0 : Int) ≤ (k : Int) := by omega
              have hki2 : (k : Int) < (l.length : Int) := by omega
              go_wp2_with fail
              go_quiet ((first | (go_at_call 19; first | exact quiet_left (KE.out _) | exact quiet_add_left (KE.out _)) | (go_at_call 20; first | exact quiet_left (KT.out _) | exact quiet_add_left (KT.out _))))
              go_wp2_with fail
              go_roundw
              case rel => exact ⟨k + 1, by omega, by go_num, by rw [← HQ.out]; exact hide (Blk.drewN HR5.out _), by rw [← HQ.out]; exact hqc, hide (show World.ownsRow (World.drewN w5 _) _ _ _ _ _ _ from HO5.out), below_drewN hb5 _⟩
              case measure => simp [intOf] <;> omega
            · have hst := hst2 (by omega)
              have KR := hide hRA
              have HST := hide hst
              clear hst hst1 hst2 hRA
              generalize stO S2 p 0 ⟨ok, ox, os, (os.size : Int)⟩ = T at *
              obtain ⟨ta, tt, tp, te⟩ := T
              have hte : te = 10 := HST.out
              subst hte
              simp only at KR
              go_wp2_with fail
              refine (KR.out _ HR4.out).mono ?_
              rintro e w5 ⟨rfl, hr5, hf5⟩
              have hb5 := hb4.trans (hf5.belowR hb4.size hR0)
              have hc5 : w5.cell? ⟨g, k, none⟩ = some (.int .i64 (q : Nat)) := (World.cell?_of_block (hf5.block g (by simp; omega) hgR)).trans HCA.out
              have HR5 := hide hr5
              clear hr5 hf5 c0 c1 c2 c3
              go_wp2_with fail
              refine (rerr_any _ _ _ _ _ HR5.out).mono ?_
              rintro e w6 ⟨rfl, rfl⟩
              go_wp2_with fail
              refine (KA.out _).mono ?_
              rintro e w7 ⟨rfl, hb7⟩
              go_wp2_with fail
              go_ret
              exact ⟨rfl, hb5.trans (hb7.mono hb5.size)⟩
          · have hk8 : k = l.length := by omega
            subst hk8
            rw [opTs_all, ← HL.out] at HR hpc
            have KLf := hide (rleft_int R S2 L.length 0 (by unfold maxLen; omega) (by omega) wr HR.out)
            rw [hS2] at KLf
            go_wp2_with fail
            refine KLf.out.mono ?_
            rintro e w6 ⟨rfl, hb6⟩
            have hb7 := hb3.trans (hb6.mono hb3.size)
            have HR7 := hide (HR.out.below hb6)
            go_wp2_with fail
            refine (rat_any _ _ _ _ _ HR7.out).mono ?_
            rintro e w7 ⟨rfl, rfl⟩
            go_wp2_with fail
            refine (KA.out _).mono ?_
            rintro e w8 ⟨rfl, hb8⟩
            go_wp2_with fail
            go_ret
            exact ⟨rfl, hb7.trans (hb8.mono hb7.size)⟩
end Go.Proofs.Ytkeaijocjbldmaa
