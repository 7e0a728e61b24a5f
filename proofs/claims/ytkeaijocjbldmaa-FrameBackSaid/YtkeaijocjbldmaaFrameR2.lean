/- All frames: the program's Scan. -/
import Derived.Test.YtkeaijocjbldmaaFrameR
import Derived.Maps.AppendAt
namespace Go.Proofs.Ytkeaijocjbldmaa
open Go.RowKit Go.Shelf
attribute [local go_sem] Oper.semAt_some

set_option maxHeartbeats 2000000 in
set_option maxRecDepth 100000 in
theorem scan_in (S : FuncId → Prop) (h36 : (FnS S).fn 36) (h38 : (FnS S).fn 38) (h62 : (FnS S).fn 62) (h67 : (FnS S).fn 67)
    (hKN : ∀ (s : ByteArray) m w1, s.size ≤ 1000000 → CallsIn (FnS S) m Try.prog 36 #[.string s] w1 fun e w' => e = .returned (.tuple #[.int .u8 ((nextN (bn s)).1 : Nat), .string (strN (nextN (bn s)).2.1), .int .i64 ((nextN (bn s)).2.2.1 : Nat), .int .i64 ((nextN (bn s)).2.2.2 : Nat)]) ∧ Below w1.heap.size w1 w')
    (hKE : ∀ (s : ByteArray) (A E : Addr) m w, CallsIn (FnS S) m Try.prog 62 #[.string s, .pointer (some A), .pointer (some E)] w fun e w' =>
      e = .returned (.func (.func 67) #[] #[.pointer (some ⟨w.heap.size + 1, 0, none⟩), .pointer (some ⟨w.heap.size, 0, none⟩), .pointer (some ⟨w.heap.size + 2, 0, none⟩)]) ∧
      ((w.alloc (.cells #[.string s] 9)).alloc (.cells #[.pointer (some A)] 99)).alloc (.cells #[.pointer (some E)] 100) = w')
    (s : ByteArray) (hs : s.size ≤ 1000000) (w : World) :
    CallsIn (FnS S) 6 Try.prog 38 #[.string s] w (ScanPost 65 w (bn s)) := by
  have HKN := hide hKN
  have HKE := hide hKE
  clear hKN hKE
  have hro : (FnS S).round = none := rfl
  have hn5 : 1 ≤ 6 := by omega
  refine callsIn_of_wp_marks Try.func38 rfl h38 ?_ rfl
  simp only [Try.ntmps38, List.size_toArray, List.length_cons, List.length_nil, Nat.reduceAdd, Nat.reduceSub, Array.replicate_succ, Array.replicate_zero, List.push_toArray, List.append_toArray, List.nil_append, List.cons_append]
  gi_wp2_with (gi_at_call 62; refine (HKE.out _ _ _ _ _).mono ?_; rintro e w6 ⟨rfl, rfl⟩)
  have hB6 : Below w.heap.size w ((((((w.alloc (.cells #[.int .i64 0] 3)).alloc (.cells #[.int .i64 0] 28)).alloc (.cells #[.slice none 0 0] 58)).alloc (.cells #[.string s] 9)).alloc (.cells #[.pointer (some ⟨w.heap.size, 0, none⟩)] 99)).alloc (.cells #[.pointer (some ⟨w.heap.size + 1, 0, none⟩)] 100)) :=
    ((((((Below.refl _ _).alloc (Nat.le_refl _) _).alloc (by simp) _).alloc (by simp; omega) _).alloc (by simp; omega) _).alloc (by simp; omega) _).alloc (by simp; omega) _
  have hst0 : St w s (frs []) (frs []) (endP []) (.slice none 0 0) ((((((w.alloc (.cells #[.int .i64 0] 3)).alloc (.cells #[.int .i64 0] 28)).alloc (.cells #[.slice none 0 0] 58)).alloc (.cells #[.string s] 9)).alloc (.cells #[.pointer (some ⟨w.heap.size, 0, none⟩)] 99)).alloc (.cells #[.pointer (some ⟨w.heap.size + 1, 0, none⟩)] 100)) := by
    have n1 := Blk.new w #[.int .i64 0] 3
    have n2 := Blk.new (w.alloc (.cells #[.int .i64 0] 3)) #[.int .i64 0] 28
    have n3 := Blk.new ((w.alloc (.cells #[.int .i64 0] 3)).alloc (.cells #[.int .i64 0] 28)) #[.slice none 0 0] 58
    have n4 := Blk.new (((w.alloc (.cells #[.int .i64 0] 3)).alloc (.cells #[.int .i64 0] 28)).alloc (.cells #[.slice none 0 0] 58)) #[.string s] 9
    have n5 := Blk.new ((((w.alloc (.cells #[.int .i64 0] 3)).alloc (.cells #[.int .i64 0] 28)).alloc (.cells #[.slice none 0 0] 58)).alloc (.cells #[.string s] 9)) #[.pointer (some ⟨w.heap.size, 0, none⟩)] 99
    have n6 := Blk.new (((((w.alloc (.cells #[.int .i64 0] 3)).alloc (.cells #[.int .i64 0] 28)).alloc (.cells #[.slice none 0 0] 58)).alloc (.cells #[.string s] 9)).alloc (.cells #[.pointer (some ⟨w.heap.size, 0, none⟩)] 99)) #[.pointer (some ⟨w.heap.size + 1, 0, none⟩)] 100
    simp only [World.size_alloc] at n2 n3 n4 n5 n6
    exact ⟨scan1_0 _, Nat.zero_le _, Nat.zero_le _, ((((n1.alloc _).alloc _).alloc _).alloc _).alloc _, (((n2.alloc _).alloc _).alloc _).alloc _, ((n3.alloc _).alloc _).alloc _, (n4.alloc _).alloc _, n5.alloc _, n6, World.ownsRow_nil _ _ _ _, hB6⟩
  obtain ⟨W6, hW6⟩ : ∃ W6, ((((((w.alloc (.cells #[.int .i64 0] 3)).alloc (.cells #[.int .i64 0] 28)).alloc (.cells #[.slice none 0 0] 58)).alloc (.cells #[.string s] 9)).alloc (.cells #[.pointer (some ⟨w.heap.size, 0, none⟩)] 99)).alloc (.cells #[.pointer (some ⟨w.heap.size + 1, 0, none⟩)] 100)) = W6 := ⟨_, rfl⟩
  have hz6 : w.heap.size + 6 ≤ W6.heap.size := by rw [← hW6]; simp
  rw [hW6] at hst0 hB6 ⊢
  clear hW6
  refine wpIn_rangeFunc_st (α := FrE) rfl (by omega) (gf := 67) (lb := #[.pointer (some ⟨w.heap.size + 4, 0, none⟩), .pointer (some ⟨w.heap.size + 3, 0, none⟩), .pointer (some ⟨w.heap.size + 5, 0, none⟩)]) rfl h67 (enters_of Try.func67 (by kernel_rfl) rfl) (encs := encF) (fun _ => rfl)
    (fun a W => ∃ v, St w s (frs a) (frs a) (endP a) v W) (fun y W => ∃ v, St w s (frs (y.1 ++ [y.2])) (frs y.1) y.2.2 v W)
    (AxP w s W6.heap.size (fun x Bx => { tmps := #[.string s, undef, .slice none 0 0, .int .i64 0, .int .i64 0, .pointer (some ⟨w.heap.size, 0, none⟩), .pointer (some ⟨w.heap.size + 1, 0, none⟩), .pointer (some ⟨w.heap.size + 2, 0, none⟩), .pointer (some ⟨Bx, 0, none⟩), .string s,
      .func (.func 67) #[] #[.pointer (some ⟨w.heap.size + 4, 0, none⟩), .pointer (some ⟨w.heap.size + 3, 0, none⟩), .pointer (some ⟨w.heap.size + 5, 0, none⟩)],
      .agg #[.int .u8 (x.1.1 : Nat), .string (strN x.1.2.1), .int .i64 (x.1.2.2 : Nat)], undef, undef, undef, undef, undef, undef, undef], defers := [] }))
    (fun xs W => ∃ p er v, Zt w s (frs xs) p er v W)
    (st_own w s _ hz6 frs frs endP) (ax_own w s _ hz6 _) (zt_own w s _ hz6) ⟨_, hst0⟩ ?hseq ?hassign ?hbody ?hdone
  case hseq =>
    intro l K hK hY W1 hI1 hK1
    exact each1_in S h36 h67 HKN.out w s hs 5 (by omega) l K hK (fun pre x W hm hk => hY pre x W hm hk) W1 hI1 hK1
  case hassign =>
    rintro l pre x W K ⟨v, hst⟩ hK
    have hst' := hide hst
    clear hst
    simp only [encF]
    gi_wp2
    have h5 := hst'.out.be.lt
    exact hK _ _ ((KeepsOthers.alloc _ _).from _) ⟨W.heap.size, by omega, rfl, Blk.new W _ _, rfl, v, hst'.out.fr (Fr.alloc _ _ (fun _ => False)) (fun _ h => h.elim)⟩
  case hbody =>
    rintro l pre x a' W ⟨Bx, hBx, _, hb, ha, v, hst⟩
    dsimp only at ha hb hst
    subst ha
    obtain ⟨A, c, rfl⟩ := own_form3 hst.own
    obtain ⟨i0, hi, hz0, hz1, hz2⟩ := info_parts info_ff
    have hb0 := hb.cell 0
    have hb1 := hb.cell 1
    have hb2 := hb.cell 2
    simp [cells3] at hb0 hb1 hb2
    have c2 := hst.li.cell 0
    simp at c2
    have hlen := hst.len
    rw [frs_snoc, List.length_append] at hlen
    simp only [List.length_cons, List.length_nil] at hlen
    have hle := hst.le
    have HST := hide hst
    have HWS := hide hst.below.size
    have hown := hst.own
    have hbel : w.heap.size ≤ W.heap.size := hst.below.size
    clear hst hb
    gi_wp2_with (gi_at_builtin; refine wpListIn_append_own _ rfl _ _ 58 rfl w.heap.size 65 i0 _ 3 32 Try.underlying58 hi hz0 hz1 hz2 rfl (by decide) _ _ _ rfl (hown.alloc _) ⟨W.heap.size, 0, none⟩ 1 1 [.int .u8 (x.1.1 : Nat), .string (strN x.1.2.1), .int .i64 (x.1.2.2 : Nat)] rfl rfl (World.news_of_block (Blk.new _ _ _).out) (by simp [Value.oneCell']) (by simp only [maxLen]; omega) (by omega) (by simpa using Nat.le_succ_of_le hbel) ?_; intro v' w1 hown1 hgrow1 _; obtain ⟨A1, c1, rfl⟩ := own_form3 hown1; have hfr1 := (Fr.alloc W (.cells #[.int .u8 (x.1.1 : Nat), .string (strN x.1.2.1), .int .i64 (x.1.2.2 : Nat)] 65) (fun k => some k = (Value.slice A (frs pre).length c).ownBlock)).trans (Fr.of_grown hgrow1) (fun _ _ h => h); have hli1 := HST.out.li.fr hfr1 (fun e => own_ne_blk HST.out.own HST.out.li (by decide) e.symm); have k1 := hli1.cell 0; have kf := hli1.frozen 0)
    have hst := HST.out
    have hne : ∀ {b t cs}, Blk W b t cs → t ≠ 65 → Blk w1 b t cs := fun hbk ht => hbk.fr hfr1 (fun e => own_ne_blk hst.own hbk ht e.symm)
    have hown2 : w1.ownsRow w.heap.size 65 3 (.slice A1 ((frs pre).length + 1) c1) (frs (pre ++ [x])).length ((frs (pre ++ [x])).flatMap cells3) := by
      rw [frs_snoc, cells3_snoc, List.length_append]
      exact hown1
    have hfs := Fr.setCell w1 ⟨w.heap.size + 2, 0, none⟩ (.slice A1 ((frs pre).length + 1) c1)
    have hoth : ∀ b, b ≠ w.heap.size + 2 → ¬ (b = (⟨w.heap.size + 2, 0, none⟩ : Addr).block) := fun b h => h
    refine ⟨keeps_fr (S := fun k => some k = (Value.slice A (frs pre).length c).ownBlock ∨ k = w.heap.size + 2) ((hfr1.mono (fun _ h => .inl h)).trans hfs (fun _ _ h => .inr h)) ?_, .slice A1 ((frs pre).length + 1) c1, ?_⟩
    · rintro k (hk | rfl)
      · exact own_cellsB hst.own hk.symm
      · exact hst.li.cellsB
    · refine ⟨by rw [endP_snoc]; exact hst.scan, by rw [endP_snoc]; exact hst.le, by rw [endP_snoc]; exact hst.len, by rw [endP_snoc]; exact (hne hst.at_ (by decide)).fr hfs (hoth _ (by omega)), (hne hst.er (by decide)).fr hfs (hoth _ (by omega)), hli1.set 0 _, (hne hst.bs (by decide)).fr hfs (hoth _ (by omega)), (hne hst.ba (by decide)).fr hfs (hoth _ (by omega)), (hne hst.be (by decide)).fr hfs (hoth _ (by omega)), own_fr hown2 hfs ?_, ?_⟩
      · rintro q hq rfl
        exact own_ne_blk hown2 hli1 (by decide) hq
      · have hb1 : Below w.heap.size w w1 := (hst.below.alloc hst.below.size _).grown hgrow1 (by simpa using Nat.le_succ_of_le hst.below.size) (fun k hk => (hst.own.lt k hk).1)
        exact hb1.setCell (by show w.heap.size ≤ w.heap.size + 2; omega) _
  case hdone =>
    rintro D xs W hD ⟨p, er, v, hz⟩ hdef
    have c0 := hz.at_.cell 0
    have c1 := hz.er.cell 0
    have c2 := hz.li.cell 0
    simp at c0 c1 c2
    have HZ := hide hz
    have HDEF := hide hdef
    clear hz hdef
    gi_wp2_with fail
    gi_quiet (fail)
    gi_wp2
    have hdef' : (W.drewN nq).heap[D]? = some (.deferred (some [])) := HDEF.out
    refine ⟨by simp, .inl ⟨_, _, rfl, run_takeDeferred hdef', ?_⟩⟩
    have hfd : Fr (W.drewN nq) ((W.drewN nq).putObj D (.deferred none)) (fun k => some k = some D) := Fr.of_grown (grownBy_putObj' _ D (.deferred none))
    have hfw := (Fr.drewN W nq (fun k => some k = some D)).trans hfd (fun _ _ h => h)
    have hz2 := HZ.out.fr hfw (by
      rintro k hk
      have hkD : k = D := by injection hk
      subst hkD
      refine ⟨by omega, fun hv => ?_⟩
      obtain ⟨o, ho, hc⟩ := own_cellsB HZ.out.own hv
      rw [HDEF.out] at ho
      injection ho with ho
      subst ho
      cases hc)
    refine ⟨_, results_tmp3 rfl _ _ _, ?_⟩
    unfold ScanPost
    have hsc := hz2.scan
    rw [hsc]
    exact ⟨v, rfl, hz2.own, hz2.below⟩
theorem scan_any (s : ByteArray) (hs : s.size ≤ 1000000) (w : World) : Calls Try.prog 38 #[.string s] w (ScanPost 65 w (bn s)) :=
  (callsIn_wide (n := 6)).1 (scan_in (fun _ => True) trivial trivial trivial trivial (fun s m w1 hs => callsIn_wide.2 (fnext_any s (by unfold maxLen; omega) w1)) (fun s A E m w => callsIn_wide.2 (each_any s A E w)) s hs w)
end Go.Proofs.Ytkeaijocjbldmaa
