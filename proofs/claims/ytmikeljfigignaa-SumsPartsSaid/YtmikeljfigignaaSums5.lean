import Derived.Test.YtmikeljfigignaaSums4
namespace Go.Proofs.Ytmikeljfigignaa
open Go.RowKit
def s19 : ByteArray := { data := #[49, 50, 51, 52, 53, 54, 55, 56, 57] }
def s00 : ByteArray := { data := #[0] }
def s_0 : ByteArray := { data := #[] }
theorem crc19 : crc (bn s19) = 3808858755 := by decide +kernel
theorem crc0 : crc (bn s_0) = 0 := by decide +kernel
theorem last0 : rollAll (Gf 0) 0 (bn s00) = 16294208416658607535 := by decide +kernel
theorem gear_zero (w : World) : Calls Try.prog 12 #[.int .u64 0] w fun e w' => e = .returned (.agg (gtab 0 256)) ∧ Below w.heap.size w w' := gear_any 0 (by omega) w
theorem crc_c19 (w : World) : Calls Try.prog 17 #[.string { data := #[49, 50, 51, 52, 53, 54, 55, 56, 57] }] w fun e w' => e = .returned (.int .u32 3808858755) ∧ Below w.heap.size w w' :=
  (crc_any s19 (by decide) w).mono fun e w' ⟨h, hb⟩ => ⟨by rw [h, crc19]; rfl, hb⟩
theorem crc_c0 (w : World) : Calls Try.prog 17 #[.string { data := #[] }] w fun e w' => e = .returned (.int .u32 0) ∧ Below w.heap.size w w' :=
  (crc_any s_0 (by decide) w).mono fun e w' ⟨h, hb⟩ => ⟨by rw [h, crc0]; rfl, hb⟩
theorem last_c0 (w : World) (bl : Nat) (t : TypeId) (H : Blk w bl t (gtab 0 256)) : Calls Try.prog 13 #[.pointer (some ⟨bl, 0, none⟩), .string { data := #[0] }] w fun e w' => e = .returned (.int .u64 16294208416658607535) ∧ w = w' :=
  (last_any 0 s00 (by decide) w bl t H).mono fun e w' ⟨h, hb⟩ => ⟨by rw [h, last0]; rfl, hb⟩
set_option maxHeartbeats 400000 in
set_option maxRecDepth 100000 in
theorem awake03 (w : World) :
    Calls Try.prog 11 #[] w fun e w' => e = .returned (.bool true) ∧ Below w.heap.size w w' := by
  have hz := zero24
  have hst := fun w1 => run_storeCells_new (P := Try.prog) w1 24 z64 (gtab 0 256) (by rw [gtab_size]; exact info24) (by rw [gtab_size]; exact z64_size) (gtab_one 0 256)
  go_enter Try.func11, Try.ntmps11
  go_wp2_with (first | (go_at_call 12; refine (gear_zero _).mono ?_; rintro e w1 ⟨rfl, hb1⟩))
  have H1 := Blk.new w1 (gtab 0 256) 24
  have hb1' := hb1.alloc hb1.size (Obj.cells (gtab 0 256) 24)
  refine (crc_c19 _).mono ?_
  rintro e w2 ⟨rfl, hb2⟩
  have H2 := H1.below hb2 H1.lt
  have hb2' := hb1'.trans (hb2.mono hb1'.size)
  clear hb1 hb1' hb2 H1
  go_wp2_with fail
  refine (crc_c0 _).mono ?_
  rintro e w3 ⟨rfl, hb3⟩
  have H3 := H2.below hb3 H2.lt
  have hb3' := hb2'.trans (hb3.mono hb2'.size)
  clear hb2' hb3 H2
  go_wp2_with fail
  refine (last_c0 _ _ _ H3).mono ?_
  rintro e w4 ⟨rfl, rfl⟩
  go_wp2
  go_ret
  exact ⟨rfl, hb3'⟩
end Go.Proofs.Ytmikeljfigignaa
