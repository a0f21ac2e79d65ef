import Derived.Test.YthkeahjcokbaaaaB4
import Derived.Test.YthkeahjcokbaaaaB6
import Derived.Lib.SlBytesConst
namespace Go.Proofs.Ythkeahjcokbaaaa
open Go.RowKit Go.V Go.V.Block

def Tells (v : Value) (w : World) (e : Ending) (w' : World) : Prop := e = .returned v ∧ Keeps [] w w'

set_option maxRecDepth 100000 in
set_option maxHeartbeats 2000000 in
theorem awake_any (w : World) : Calls Try.prog 10 #[] w (Tells (.bool true) w) := by
  have kc := fun (w : World) (C : Array Value) (n c : Nat) => Lib.run_convert_bytes_const (P := Try.prog) w 22 5 C n c Try.underlying22 Try.underlying5
  go_enter Try.func10, Try.ntmps10
  go_wp2_with fail
  refine (new_any 2 _ (by omega) (by omega)).mono ?_
  rintro e w1 ⟨sb, hsb, rfl, hs1, hk1⟩
  go_wp2_with fail
  refine (new_bad (-1) _ (by omega)).mono ?_
  rintro e w2 ⟨rfl, rfl⟩
  go_wp2_with fail
  refine (body_any _ _).mono ?_
  rintro e w2 ⟨bb, mb, hbb, hmb, rfl, hb2, hk2⟩
  have hl1 := hs1.lt
  have hl2 := hb2.lt
  have hs2 := hs1.keep hk2 (by simp)
  have hz1 := hk1.size
  have hz2 := hk2.size
  go_wp2_with fail
  have e1 : writeM 2 ⟨0, 0, []⟩ 20 [97, 98] = (2, 0, ⟨1, 22, [(1, [0, 0, 0, 0, 97, 98, 0, 0, 0, 0, 0, 0, 0, 0, 0, 0])]⟩) := by rfl
  refine (write_any sb bb mb 2 ⟨0, 0, []⟩ 20 [97, 98] _ _ (hs2.keep ((Keeps.refl [] w2).alloc _) (by simp)) (hb2.keep ((Keeps.refl [] w2).alloc _) (by simp) (by simp)) (by omega) (by decide) (by decide) (by omega)
    (Reads.of_block (heap_alloc w2 _)) (by intro _; simp [Value.ownBlock]; omega) (by intro p n c h; cases h; simp)).mono ?_
  rw [e1]
  rintro e w3 ⟨rfl, hs3, hb3, hk3⟩
  have hk3 := ((hk1.trans hk2).alloc _).trans' hk3 (fun x hx => by simp at hx; omega)
  clear e1 hs2 hb2
  go_wp2_with fail
  refine (holes_any bb mb 22 _ w3 hb3).mono ?_
  rintro e w4 ⟨vh, rfl, ho4, hk4⟩
  have hs4 := hs3.keep hk4 (by simp)
  have hb4 := hb3.keep hk4 (by simp) (by simp)
  have hk4' := hk3.trans hk4
  have hl3 := hs3.lt
  have hl3' := hb3.lt
  clear hs3 hb3
  go_wp2_with fail
  have e2 : readM ⟨1, 22, [(1, [0, 0, 0, 0, 97, 98, 0, 0, 0, 0, 0, 0, 0, 0, 0, 0])]⟩ 18 9 = ([0, 0, 97, 98], 0) := by rfl
  refine (read_any _ bb mb ⟨1, 22, [(1, [0, 0, 0, 0, 97, 98, 0, 0, 0, 0, 0, 0, 0, 0, 0, 0])]⟩ 18 9 w4 hb4).mono ?_
  rw [e2]
  rintro e w5 ⟨vr, rfl, ho5, hk5⟩
  have hs5 := hs4.keep hk5 (by simp)
  have hb5 := hb4.keep hk5 (by simp) (by simp)
  have hh5 := ho4.keep hk5 (by simp)
  have hk5' := hk4'.trans hk5
  clear hs4 hb4 ho4 e2
  go_wp2_with (at_make; refine vp_make rfl (.const (.int .i64 40)) (.const (.int .i64 40)) 22 rfl 5 Try.underlying22 (.int .u8 0) 1 info5 rfl 40 rfl rfl (by omega) (by omega) ?_; intro w6 hw6 hk6 hz6)
  have hs6 := hs5.keep hk6 (by simp)
  have hb6 := hb5.keep hk6 (by simp) (by simp)
  have hh6 := hh5.keep hk6 (by simp)
  have hr6 := ho5.keep hk6 (by simp)
  have hk6' := hk5'.trans hk6
  have hl5 := hs5.lt
  have hl5' := hb5.lt
  have e3 : writeM 2 ⟨1, 22, [(1, [0, 0, 0, 0, 97, 98, 0, 0, 0, 0, 0, 0, 0, 0, 0, 0])]⟩ 30 (List.replicate 40 0) = (18, 0, ⟨2, 48, [(1, [0, 0, 0, 0, 97, 98, 0, 0, 0, 0, 0, 0, 0, 0, 0, 0]), (2, zero16)]⟩) := by rfl
  refine (write_any sb bb mb 2 ⟨1, 22, [(1, [0, 0, 0, 0, 97, 98, 0, 0, 0, 0, 0, 0, 0, 0, 0, 0])]⟩ 30 (List.replicate 40 0) _ w6 hs6 hb6 (by omega) (by decide) (by decide) (by omega) (by have := Reads.of_block hw6.out; rw [List.length_replicate] at this; rw [map_replicate_bv]; exact this)
    (by intro _; simp [Value.ownBlock]; omega) (by intro p n c h; cases h; omega)).mono ?_
  rw [e3]
  rintro e w7 ⟨rfl, hs7, hb7, hk7⟩
  have hz3 := hk3.size
  have hz4 := hk4.size
  have hh7 := hh6.keep_lo hk7 (by simp; omega)
  have hr7 := hr6.keep_lo hk7 (by simp; omega)
  have hk7' := hk6'.trans' hk7 (fun x hx => by simp at hx; omega)
  clear hs5 hb5 hh5 hr6 hh6 hb6 hs6 ho5 hw6 e3
  have hl7 := hs7.lt
  have hl7' := hb7.lt
  go_wp2_with fail
  have e4 : writeM 2 ⟨2, 48, [(1, [0, 0, 0, 0, 97, 98, 0, 0, 0, 0, 0, 0, 0, 0, 0, 0]), (2, zero16)]⟩ 0 [120] = (0, 28, ⟨2, 48, [(1, [0, 0, 0, 0, 97, 98, 0, 0, 0, 0, 0, 0, 0, 0, 0, 0]), (2, zero16)]⟩) := by rfl
  refine (write_any sb bb mb 2 ⟨2, 48, [(1, [0, 0, 0, 0, 97, 98, 0, 0, 0, 0, 0, 0, 0, 0, 0, 0]), (2, zero16)]⟩ 0 [120] _ _ (hs7.keep ((Keeps.refl [] w7).alloc _) (by simp)) (hb7.keep ((Keeps.refl [] w7).alloc _) (by simp) (by simp)) (by omega) (by decide) (by decide) (by omega)
    (Reads.of_block (heap_alloc w7 _)) (by intro _; simp [Value.ownBlock]; omega) (by intro p n c h; cases h; simp)).mono ?_
  rw [e4]
  rintro e w8 ⟨rfl, hs8, hb8, hk8⟩
  have hz7 := hk7'.size
  have hk8' := (hk7'.alloc _).trans' hk8 (fun x hx => by simp at hx; omega)
  have hh8 := (hh7.keep ((Keeps.refl [] w7).alloc _) (by simp)).keep_lo hk8 (by simp; omega)
  have hr8 := (hr7.keep ((Keeps.refl [] w7).alloc _) (by simp)).keep_lo hk8 (by simp; omega)
  clear hs7 hb7 hh7 hr7 e4
  have hrd := hr8.reads
  rcases hh8.shape with ⟨_, h⟩ | ⟨g, cap, rfl, _, _, _, hcell⟩
  · exact absurd h (by decide)
  · have hc0 : w8.cell? ⟨g, 0, none⟩ = some (.int .i64 0) := hcell 0 _ rfl
    have hlen : ((holesTo [(1, [0, 0, 0, 0, 97, 98, 0, 0, 0, 0, 0, 0, 0, 0, 0, 0])] 2).map iv).length = 1 := by rfl
    clear hh8 hcell hr8
    rw [show (((22 : Int) + 15) / 16).toNat = 2 by rfl, hlen]
    go_wp2_with (first
      | (refine vp_string (by rfl) (.tmp 70) 22 9 5 rfl Try.underlying22 Try.underlying5 Try.underlying9 rfl hrd ?_)
      | (go_at_call 16; refine (used_ok sb 2 2 w8 hs8).mono ?_; rintro e w' ⟨rfl, rfl⟩)
      | (go_at_call 26; refine (room_ok sb 2 2 w8 hs8).mono ?_; rintro e w' ⟨rfl, rfl⟩)
      | (go_at_call 27; refine (size_ok bb mb 48 _ w8 hb8).mono ?_; rintro e w' ⟨rfl, rfl⟩)
      | (go_at_call 15; refine (chunks_any bb mb 48 _ w8 hb8).mono ?_; rintro e w' ⟨rfl, rfl⟩))
    go_ret
    exact ⟨rfl, hk8'⟩
end Go.Proofs.Ythkeahjcokbaaaa
