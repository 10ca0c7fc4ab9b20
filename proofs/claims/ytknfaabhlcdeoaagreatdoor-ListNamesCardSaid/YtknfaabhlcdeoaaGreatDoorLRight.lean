/- layer.Right tells whether a list of entries is a layer; for entries whose texts have at most 2^47 bytes. -/
import Derived.Test.YtknfaabhlcdeoaaGreatDoorLPlain
import Derived.Deep.RegionWith
import Derived.Lib.QuietBelow
import Derived.Deep.DeepCutAuto
import Derived.Deep.CutBlock
namespace Go.Proofs.YtknfaabhlcdeoaaGreatDoor
open Go Go.RowKit Go.Shelf Go.Proofs

theorem ent_box (w : World) (x : Ent) : (w.alloc (.cells #[.string x.path, .int .i64 x.kind, .string x.data] 33)).cell? ⟨w.heap.size, 0, none⟩ = some (.string x.path) ∧
    (w.alloc (.cells #[.string x.path, .int .i64 x.kind, .string x.data] 33)).cell? ⟨w.heap.size, 1, none⟩ = some (.int .i64 x.kind) ∧
    (w.alloc (.cells #[.string x.path, .int .i64 x.kind, .string x.data] 33)).cell? ⟨w.heap.size, 2, none⟩ = some (.string x.data) := by
  refine ⟨?_, ?_, ?_⟩ <;> (rw [World.cell?_alloc_at _ _ _ _ rfl]; rfl)

theorem round_ok {l : List Ent} {k n : Nat} {x : Ent} {w w' : World} (hE : Ext w w') (hkn : k ≤ n) (hlt : k < n) {hh : k < l.length} (hx : Hid (l[k]'hh = x)) (hok : okAt l k x = true)
    (hall : Hid (∀ (t : Nat) (h : t < l.length), t < k → okAt l t l[t] = true)) :
    (∃ k_1 : Nat, Value.int IntKind.i64 ((k : Int) + 1) = Value.int IntKind.i64 k_1 ∧ k_1 ≤ n ∧ Hid (∀ (t : Nat) (h : t < l.length), t < k_1 → okAt l t l[t] = true) ∧ Ext w w') ∧
      n - (intOf (Value.int IntKind.i64 ((k : Int) + 1))).toNat < n - (intOf (Value.int IntKind.i64 k)).toNat := by
  refine ⟨⟨k + 1, by simp, by omega, Lib.hid fun t ht htk => ?_, hE⟩, ?_⟩
  · by_cases e : t = k
    · subst e
      rw [hx.out]
      exact hok
    · exact hall.out t ht (by omega)
  · simp [intOf]
    omega

theorem right_short (v : Value) (w : World) (hv : RdE w v []) :
    Calls Tryz.prog 41 #[v] w fun e w' => e = .returned (.bool true) ∧ Ext w w' := by
  obtain ⟨A, c, rfl, _⟩ := hv
  go_enter Tryz.func41, Tryz.ntmps41
  go_wp2
  go_loopw [15] (fun i wr => i = .int .i64 0 ∧ Ext w wr) (fun i _ => 0)
  case atStart => exact ⟨rfl, Ext.refl _⟩
  case round =>
    obtain ⟨rfl, hE⟩ := hrel
    go_wp2
    go_ret
    exact ⟨rfl, hE⟩

set_option maxHeartbeats 4000000 in
theorem LRight_any (v : Value) (l : List Ent) (w : World) (hv : RdE w v l) :
    Calls Tryz.prog 41 #[v] w fun e w' => e = .returned (.bool (layerOk l)) ∧ Ext w w' := by
  have hlen := Rd.len hv
  by_cases h64 : l.length ≤ 64
  · by_cases h0 : l = []
    · subst h0
      exact right_short v w hv
    · obtain ⟨b, o, c, rfl, hc1, hc2, hcell⟩ := RdE.open_ hv h0
      have Hcell := Lib.hid hcell
      clear hcell
      obtain ⟨n, hn⟩ : ∃ n, n = l.length := ⟨_, rfl⟩
      have Hn := Lib.hid hn
      have Hv := Lib.hid hv
      rw [← hn] at hlen hc1 h64 ⊢
      clear hn hv
      go_enter Tryz.func41, Tryz.ntmps41
      go_wp2
      go_loopw [15] (fun i wr => ∃ k : Nat, i = .int .i64 k ∧ k ≤ n ∧ Hid (∀ (t : Nat) (h : t < l.length), t < k → okAt l t l[t] = true) ∧ Ext w wr) (fun i _ => n - (intOf i).toNat)
      case atStart => exact ⟨0, rfl, by omega, Lib.hid (fun t _ ht => absurd ht (Nat.not_lt_zero t)), Ext.refl _⟩
      case round =>
        obtain ⟨k, rfl, hkn, hall, hE⟩ := hrel
        by_cases hlt : k < n
        · have hh : k < l.length := by have := Hn.out; omega
          obtain ⟨x, hx⟩ : ∃ x, l[k]'hh = x := ⟨_, rfl⟩
          obtain ⟨q0, q1, q2, hf⟩ := Hcell.out _ hh
          rw [hx] at q0 q1 q2 hf
          have g0 := hE.cell q0
          have g1 := hE.cell q1
          have g2 := hE.cell q2
          have Hx := Lib.hid hx
          have hh' := hh
          clear q0 q1 q2 hx
          go_upto_region 6 with (fail)
          obtain ⟨eb, heb⟩ : ∃ eb, wr.heap.size = eb := ⟨_, rfl⟩
          obtain ⟨z0, z1, z2⟩ := ent_box wr x
          have hE5 := hE.alloc (.cells #[.string x.path, .int .i64 x.kind, .string x.data] 33)
          rw [heb] at z0 z1 z2 ⊢
          have Heb := Lib.hid heb
          clear heb
          generalize wr.alloc (.cells #[.string x.path, .int .i64 x.kind, .string x.data] 33) = W5 at z0 z1 z2 hE5 ⊢
          clear g0 g1 g2
          go_cut [36] (fun s36 wx => s36 = .bool (!headOk l k x) ∧ Ext W5 wx)
          case first =>
            have HR := fun w => EntRight_any x w hf
            have z0' := fun d os => cell_regrown z0 d os
            have z1' := fun d os => cell_regrown z1 d os
            have z2' := fun d os => cell_regrown z2 d os
            rcases hok : entOk x with _ | _
            · have hh : headOk l k x = false := by unfold headOk; rw [hok, Bool.false_and]
              rw [hok] at HR
              clear hok
              (refine wp_region_quiet_below (by kernel_rfl) (by kernel_rfl) ?_; (repeat (go_big_quiet_step ((go_at_call 86; exact Calls.regrown_of (HR _))))); refine wpQuiet_nil ?_; intro _ hq; obtain ⟨⟨dq, osq⟩, hq2⟩ := hq; subst hq2)
              go_wp2
              go_meet
              exact ⟨by rw [hh]; rfl, below_regrown W5 dq osq⟩
            · rw [hok] at HR
              rcases k with _ | j
              · have hh : headOk l 0 x = true := by rw [headOk_zero, hok]
                clear hok
                (refine wp_region_quiet_below (by kernel_rfl) (by kernel_rfl) ?_; (repeat (go_big_quiet_step ((go_at_call 86; exact Calls.regrown_of (HR _))))); refine wpQuiet_nil ?_; intro _ hq; obtain ⟨⟨dq, osq⟩, hq2⟩ := hq; subst hq2)
                go_wp2
                go_meet
                exact ⟨by rw [hh]; rfl, below_regrown W5 dq osq⟩
              · have hj : j < l.length := by have := Hn.out; omega
                have hh : headOk l (j + 1) x = lt l[j].path x.path := by rw [headOk_succ hj, hok, Bool.true_and]
                obtain ⟨q0, q1, q2, _⟩ := Hcell.out _ hj
                obtain ⟨y, hy⟩ : ∃ y, l[j]'hj = y := ⟨_, rfl⟩
                rw [hy] at q0 q1 q2 hh
                have y0' := fun d os => cell_regrown (hE5.cell q0) d os
                have y1' := fun d os => cell_regrown (hE5.cell q1) d os
                have y2' := fun d os => cell_regrown (hE5.cell q2) d os
                have HL := fun w => Less_any y x w
                clear hok
                have hsub : IntKind.i64.wrap ((↑(j + 1) : Int) - 1) = (j : Int) := by
                  have : ((↑(j + 1) : Int) - 1) = (j : Int) := by omega
                  rw [this]
                  exact IntWalk.i64_in _ ⟨by omega, by omega⟩
                have hjn : j < n := by omega
                (refine wp_region_quiet_below (by kernel_rfl) (by kernel_rfl) ?_; (repeat (go_big_quiet_step ((first | (go_at_call 86; exact Calls.regrown_of (HR _)) | (go_at_call 87; exact Calls.regrown_of (HL _)))))); refine wpQuiet_nil ?_; intro _ hq; obtain ⟨⟨dq, osq⟩, hq2⟩ := hq; subst hq2)
                go_wp2
                go_meet
                exact ⟨by rw [hh], below_regrown W5 dq osq⟩
          case rest =>
            obtain ⟨rfl, hE6⟩ := hcut
            rcases hh : headOk l k x with _ | _
            · have hbad := layerOk_not hh' (okAt_bad (by rw [Hx.out]; exact hh))
              go_wp2
              go_ret
              exact ⟨by simp [hbad], hE5.trans hE6⟩
            · obtain ⟨xs, z, hnm, hdir⟩ := entOk_names (headOk_ent hh)
              have HP0 := fun w => Parent_some x.path xs z w hf.1 hnm
              obtain ⟨d, hd0⟩ : ∃ d, pathOf xs = d := ⟨_, rfl⟩
              have hd : dirOf x.path = d := hdir.trans hd0
              have HP : ∀ w, Calls Tryz.prog 33 #[.string x.path] w (ParentOk d z w) := fun w => by rw [← hd0]; exact HP0 w
              clear HP0 hd0 hdir hnm
              have z0' := hE6.cell z0
              have hrise := rising_of hall.out
              have HA : ∀ w', Ext w w' → Calls Tryz.prog 89 #[.slice (some ⟨b, o, none⟩) k c, .string d] w' fun e w'' => (∃ (m : Nat) (ok : Bool), e = .returned (.tuple #[.int .i64 m, .bool ok]) ∧ AtIs (l.take k) d m ok) ∧ Ext w' w'' := by
                intro w' hw
                refine at_any _ _ _ _ ?_ hrise
                have h1 := Hv.out
                rw [← List.take_append_drop k l] at h1
                have h2 := Rd.left h1
                rw [List.length_take, Nat.min_eq_left (Nat.le_of_lt hh')] at h2
                exact RdE.ext h2 hw
              go_wp2_with (go_at_call 33; refine (HP _).mono ?_; rintro e W7 ⟨rfl, hE7⟩)
              refine (HA _ ((hE5.trans hE6).trans hE7)).mono ?_
              rintro e W8 ⟨⟨m, ok, rfl, hm⟩, hE8⟩
              have hE9 := ((hE5.trans hE6).trans hE7).trans hE8
              by_cases hroot : d = ⟨#[47]⟩
              · subst hroot
                have hok : okAt l k x = true := by rw [okAt_dir hh, holds_of_dir hd]
                go_wp2
                exact round_ok hE9 hkn hlt Hx hok hall
              · have hroot' : dirOf x.path ≠ ⟨#[47]⟩ := by rw [hd]; exact hroot
                have hroot2 : (d.toList == [47]) = false := by
                  rw [beq_eq_false_iff_ne]
                  exact fun e => hroot (data_inj (by rw [← toList_eq, e]))
                rw [← hd] at hm
                rcases ok with _ | _
                · have hbad := layerOk_not hh' (by rw [Hx.out, okAt_dir hh]; exact dirOk_none hrise hroot' hm)
                  clear hm hroot'
                  go_wp2
                  all_goals (try contradiction)
                  go_ret
                  exact ⟨by simp [hbad], hE9⟩
                · obtain ⟨hm1, hm2, hm3⟩ := dirOk_at hrise hroot' hm
                  obtain ⟨y, hy⟩ : ∃ y, l[m]'hm1 = y := ⟨_, rfl⟩
                  obtain ⟨q0, q1, q2, hfy⟩ := Hcell.out _ hm1
                  rw [hy] at q0 q1 q2 hm3
                  have r0 := hE9.cell q0
                  have r1 := hE9.cell q1
                  have r2 := hE9.cell q2
                  have hmn : m < n := Nat.lt_trans hm2 hlt
                  have HH := fun w => Holds_any y w
                  clear hm hroot' q0 q1 q2 hy hfy hm1
                  rcases hhy : holds y with _ | _
                  · have hbad := layerOk_not hh' (by rw [Hx.out, okAt_dir hh, hm3]; exact hhy)
                    rw [hhy] at HH
                    clear hhy hm3
                    go_wp2_with (go_at_call 88; refine (HH _).mono ?_; rintro e W9 ⟨rfl, hE10⟩)
                    all_goals (try contradiction)
                    go_ret
                    exact ⟨by simp [hbad], hE9.trans hE10⟩
                  · have hok : okAt l k x = true := by rw [okAt_dir hh, hm3]; exact hhy
                    rw [hhy] at HH
                    clear hhy hm3
                    go_wp2_with (go_at_call 88; refine (HH _).mono ?_; rintro e W9 ⟨rfl, hE10⟩)
                    all_goals (try contradiction)
                    exact round_ok (hE9.trans hE10) hkn hlt Hx hok hall
        · have hkn' : k = n := by omega
          have hok : layerOk l = true := layerOk_of (by have := Hn.out; omega) fun t ht => hall.out t ht (by have := Hn.out; omega)
          go_wp2
          go_ret
          exact ⟨by simp [hok], hE⟩
  · have hbad := layerOk_long h64
    obtain ⟨A, c, rfl, hc1, hc2, _⟩ := hv
    go_enter Tryz.func41, Tryz.ntmps41
    go_wp2
    go_ret
    exact ⟨by simp [hbad], Ext.refl _⟩
end Go.Proofs.YtknfaabhlcdeoaaGreatDoor
