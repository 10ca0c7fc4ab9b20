/- path.Name tells whether a text is a name: 1 to 8 bytes, all of them signs. -/
import Derived.Test.YtknfaabhlcdeoaaGreatDoorWords
import Derived.Test.YtknfaabhlcdeoaaGreatDoorBase
import Derived.Test.YtknfaabhlcdeoaaGreatDoorShelf
import Derived.Deep.LoopGhost
import Derived.Lib.SlTrimSet
import Derived.WalkLawsBesides
import Derived.WalkSpells
namespace Go.Proofs.YtknfaabhlcdeoaaGreatDoor
open Go Go.RowKit Go.Shelf Go.Proofs

theorem enc_ascii (b : UInt8) (hb : b.toNat < 128) : Utf8.encode (b.toNat : Int) = ⟨#[b]⟩ := by
  have h : ∀ n : Fin 128, Utf8.encode ((n.val : Nat) : Int) = ⟨#[UInt8.ofNat n.val]⟩ := by decide +kernel
  have := h ⟨b.toNat, hb⟩
  simpa using this

theorem sign_ascii {b : UInt8} (h : sign b = true) : b.toNat < 128 := by
  have g : ∀ n : Fin 256, sign (UInt8.ofNat n.val) = true → n.val < 128 := by decide +kernel
  have := g ⟨b.toNat, b.toNat_lt⟩
  simp at this
  exact this h

theorem containsAny_sign {b : UInt8} (h : sign b = true) : Lib.containsAny [b] signsL = true := by
  have g : ∀ n : Fin 256, sign (UInt8.ofNat n.val) = true → Lib.containsAny [UInt8.ofNat n.val] signsL = true := by decide +kernel
  have := g ⟨b.toNat, b.toNat_lt⟩
  simp at this
  exact this h

set_option maxHeartbeats 1000000 in
theorem Name1_sign (b : UInt8) (hb : sign b = true) (w : World) :
    Calls Tryz.prog 52 #[.int .i32 b.toNat] w fun e w' => e = .returned (.bool false) ∧ Ext w w' := by
  have ha := sign_ascii hb
  have hc := Tryz.strings_ContainsAny_laid ⟨#[b]⟩ ⟨#[97, 98, 99, 100, 101, 102, 103, 104, 105, 106, 107, 108, 109, 110, 111, 112, 113, 114, 115, 116, 117, 118, 119, 120, 121, 122, 48, 49, 50, 51, 52, 53, 54, 55, 56, 57, 45, 95]⟩ w (by show 1 < 4294967281; decide) (by decide) (fun j c h => by
    rcases j with _ | j
    · obtain rfl : b = c := by simpa using h
      exact ha
    · simp at h) (ascii_of_all (by decide))
  have e1 : Lib.containsAny (⟨#[b]⟩ : ByteArray).data.toList (⟨#[97, 98, 99, 100, 101, 102, 103, 104, 105, 106, 107, 108, 109, 110, 111, 112, 113, 114, 115, 116, 117, 118, 119, 120, 121, 122, 48, 49, 50, 51, 52, 53, 54, 55, 56, 57, 45, 95]⟩ : ByteArray).data.toList = true := containsAny_sign hb
  rw [e1] at hc
  clear e1
  go_enter Tryz.func52, Tryz.ntmps52
  go_wp2_with fail
  rw [enc_ascii b ha]
  refine hc.mono ?_
  rintro e w' ⟨rfl, hB⟩
  go_wp2
  go_ret
  exact ⟨rfl, hB⟩

set_option maxHeartbeats 2000000 in
theorem indexFunc_none (g : Nat) (eg : ∀ args w, (callFunc g args).run Tryz.prog w = .ok (.enter g args) w) (s : ByteArray) (w : World)
    (hp : ∀ W pos, pos < s.size → Ext w W → Calls Tryz.prog g #[.int .i32 ((Utf8.decode s pos).1 : Int)] W fun e w' => e = .returned (.bool false) ∧ Ext W w') :
    Calls Tryz.prog 159 #[.string s, .func (.func g) #[] #[], .bool true] w fun e w' => e = .returned (.int .i64 (-1)) ∧ Ext w w' := by
  go_enter Tryz.func159, Tryz.ntmps159
  go_wp2
  go_loopg [] s.size (fun gf wx => ∃ pos : Nat, wx.heap[w.heap.size]? = some (.stringIter s pos) ∧ Ext w wx ∧ s.size ≤ pos + gf)
  case atStart => exact ⟨0, World.iter_heap w s 0, (Ext.refl w).alloc _, by omega⟩
  case round =>
    obtain ⟨pos, hit, hbw, hfu⟩ := hrel
    by_cases hps : pos < s.size
    · obtain ⟨g', rfl⟩ : ∃ g', gk = g' + 1 := ⟨gk - 1, by omega⟩
      have hnx : ∀ ty, (Instr.next (.pointer (some ⟨w.heap.size, 0, none⟩)) true ty).run Tryz.prog wr = _ := fun ty => Lib.run_next_any_at wr w.heap.size s pos ty hit hps
      have hwd := Lib.width_pos s pos
      obtain ⟨R, hR⟩ : ∃ R, (Utf8.decode s pos).1 = R := ⟨_, rfl⟩
      obtain ⟨K, hK⟩ : ∃ K, (Utf8.decode s pos).2 = K := ⟨_, rfl⟩
      rw [hR, hK] at hnx
      rw [hK] at hwd
      have hit2 := Lib.iterAt_heap wr w.heap.size s pos (pos + K) hit
      have hbw2 : Ext w (wr.iterAt w.heap.size s (pos + K)) := Lib.below_iterAt hbw (k := w.heap.size) (Nat.le_refl _) s (pos + K)
      obtain ⟨W, hWd⟩ : ∃ W, wr.iterAt w.heap.size s (pos + K) = W := ⟨_, rfl⟩
      rw [hWd] at hnx hit2 hbw2
      have hltW : w.heap.size < W.heap.size := (Array.getElem?_eq_some_iff.1 hit2).1
      have cS := hp W pos hps hbw2
      rw [hR] at cS
      clear hp hR hK hWd
      go_wp2_with (go_at_fn g; refine cS.mono ?_; rintro e W' ⟨rfl, hbc⟩)
      go_roundg g'
      case measure => omega
      case rel => exact ⟨pos + K, hbc.block hit2, hbw2.trans hbc, by omega⟩
    · have hnx : ∀ ty, (Instr.next (.pointer (some ⟨w.heap.size, 0, none⟩)) true ty).run Tryz.prog wr = _ := fun ty => Lib.run_next_end_at wr w.heap.size s pos ty hit hps
      go_wp2
      go_ret
      exact ⟨rfl, hbw⟩

set_option maxHeartbeats 1000000 in
theorem ContainsFunc_none (g : Nat) (eg : ∀ args w, (callFunc g args).run Tryz.prog w = .ok (.enter g args) w) (s : ByteArray) (w : World)
    (hp : ∀ W pos, pos < s.size → Ext w W → Calls Tryz.prog g #[.int .i32 ((Utf8.decode s pos).1 : Int)] W fun e w' => e = .returned (.bool false) ∧ Ext W w') :
    Calls Tryz.prog 51 #[.string s, .func (.func g) #[] #[]] w fun e w' => e = .returned (.bool false) ∧ Ext w w' := by
  have HI := indexFunc_none g eg s w hp
  clear hp
  have H2 : Calls Tryz.prog 104 #[.string s, .func (.func g) #[] #[]] w fun e w' => e = .returned (.int .i64 (-1)) ∧ Ext w w' := by
    go_enter Tryz.func104, Tryz.ntmps104
    go_wp2_with (go_at_call 159; refine HI.mono ?_; rintro e w' ⟨rfl, hb⟩)
    go_ret
    exact ⟨rfl, hb⟩
  clear HI
  go_enter Tryz.func51, Tryz.ntmps51
  go_wp2_with (go_at_call 104; refine H2.mono ?_; rintro e w' ⟨rfl, hb⟩)
  go_ret
  exact ⟨rfl, hb⟩

theorem decode_ascii (s : ByteArray) (pos : Nat) (h : pos < s.size) (hb : (s[pos]).toNat < 128) : (Utf8.decode s pos).1 = (s[pos]).toNat := by
  have e : s.get! (pos + 0) = s[pos] := by
    obtain ⟨a⟩ := s
    simp only [ByteArray.get!, Nat.add_zero]
    exact getElem!_pos a pos h
  unfold Utf8.decode
  simp only [e]
  rw [if_pos hb]

theorem trimS_all (l : List UInt8) (h : l.all sign = true) : Lib.trimS l signsL = [] := by
  have h1 : ∀ l : List UInt8, l.all sign = true → l.dropWhile (signsL.contains ·) = [] := fun l h => by
    induction l with
    | nil => rfl
    | cons b l ih =>
      rw [List.all_cons, Bool.and_eq_true] at h
      rw [List.dropWhile_cons_of_pos (by rw [mem_signs]; exact h.1)]
      exact ih h.2
  have h2 : l.reverse.all sign = true := by rw [List.all_reverse]; exact h
  simp only [Lib.trimS, Lib.trimRightS, Lib.trimLeftS, h1 _ h2, List.reverse_nil, List.dropWhile_nil]

theorem dropWhile_ne {p : UInt8 → Bool} : ∀ {l : List UInt8} {b : UInt8}, b ∈ l → p b = false → b ∈ l.dropWhile p
  | [], _, h, _ => by simp at h
  | c :: l, b, h, hb => by
    by_cases hc : p c = true
    · rw [List.dropWhile_cons_of_pos hc]
      rcases List.mem_cons.1 h with rfl | h
      · rw [hb] at hc; cases hc
      · exact dropWhile_ne h hb
    · rw [List.dropWhile_cons_of_neg hc]; exact h

theorem trimS_not (l : List UInt8) (h : l.all sign = false) : Lib.trimS l signsL ≠ [] := by
  obtain ⟨b, hb, hs⟩ := List.all_eq_false.1 h
  have hs' : signsL.contains b = false := by rw [mem_signs]; simpa using hs
  have h1 : b ∈ l.reverse.dropWhile (signsL.contains ·) := dropWhile_ne (by simpa using hb) hs'
  have h2 : b ∈ (l.reverse.dropWhile (signsL.contains ·)).reverse := by simpa using h1
  have h3 : b ∈ (l.reverse.dropWhile (signsL.contains ·)).reverse.dropWhile (signsL.contains ·) := dropWhile_ne h2 hs'
  intro e
  rw [Lib.trimS, Lib.trimRightS, Lib.trimLeftS] at e
  rw [e] at h3
  simp at h3

theorem Trim_all (s : ByteArray) (w : World) (hs : s.size ≤ 140737488355328) (h : s.data.toList.all sign = true) :
    Calls Tryz.prog 50 #[.string s, .string ⟨#[97, 98, 99, 100, 101, 102, 103, 104, 105, 106, 107, 108, 109, 110, 111, 112, 113, 114, 115, 116, 117, 118, 119, 120, 121, 122, 48, 49, 50, 51, 52, 53, 54, 55, 56, 57, 45, 95]⟩] w fun e w' => e = .returned (.string ⟨#[]⟩) ∧ Ext w w' := by
  refine (Any.strings_Trim_laid Tryz.lays160 (by kernel_rfl) s _ w (by omega) (by decide) (ascii_of_all (by decide))).mono ?_
  rintro e w' ⟨rfl, hb⟩
  have e : Lib.trimS s.data.toList signsL = [] := trimS_all _ h
  exact ⟨congrArg (fun l : List UInt8 => Ending.returned (.string ⟨l.toArray⟩)) e, hb⟩

theorem Trim_not (s : ByteArray) (w : World) (hs : s.size ≤ 140737488355328) (h : s.data.toList.all sign = false) :
    Calls Tryz.prog 50 #[.string s, .string ⟨#[97, 98, 99, 100, 101, 102, 103, 104, 105, 106, 107, 108, 109, 110, 111, 112, 113, 114, 115, 116, 117, 118, 119, 120, 121, 122, 48, 49, 50, 51, 52, 53, 54, 55, 56, 57, 45, 95]⟩] w fun e w' => (∃ x : ByteArray, e = .returned (.string x) ∧ x.toList ≠ []) ∧ Ext w w' := by
  refine (Any.strings_Trim_laid Tryz.lays160 (by kernel_rfl) s _ w (by omega) (by decide) (ascii_of_all (by decide))).mono ?_
  rintro e w' ⟨rfl, hb⟩
  refine ⟨⟨_, rfl, ?_⟩, hb⟩
  have := trimS_not _ h
  intro e
  apply this
  have e2 : (B (Lib.trimS s.data.toList signsL)).toList = [] := e
  simpa [B] using e2

set_option maxHeartbeats 2000000 in
theorem Name_any (s : ByteArray) (w : World) (hs : s.size ≤ 140737488355328) :
    Calls Tryz.prog 16 #[.string s] w fun e w' => e = .returned (.bool (nameOk s.data.toList)) ∧ Ext w w' := by
  have hl : s.data.toList.length = s.size := Array.length_toList
  have e118 : ∀ args w, (callFunc 52 args).run Tryz.prog w = .ok (.enter 52 args) w := enters_of Tryz.func52 (by kernel_rfl) rfl
  by_cases h1 : 1 ≤ s.size
  · by_cases h8 : s.size ≤ 8
    · by_cases ha : s.data.toList.all sign = true
      · have hn : nameOk s.data.toList = true := by simp only [nameOk, hl, ha]; simp; omega
        rw [hn]
        have hT := fun w => Trim_all s w hs ha
        have hC := fun w => ContainsFunc_none 52 e118 s w (fun W pos hp _ => by
          have hsg : sign (s[pos]) = true := List.all_eq_true.1 ha _ (by simp [ByteArray.getElem_eq_getElem_data])
          rw [decode_ascii s pos hp (sign_ascii hsg)]
          exact Name1_sign _ hsg W)
        clear hn ha hl e118
        go_enter Tryz.func16, Tryz.ntmps16
        go_wp2_with (first | (go_at_call 50; refine (hT _).mono ?_; rintro e w' ⟨rfl, hb⟩) | (go_at_call 51; refine (hC _).mono ?_; rintro e w' ⟨rfl, hb2⟩))
        go_ret
        exact ⟨rfl, (by repeat (first | exact Ext.refl _ | assumption | refine Ext.alloc ?_ _ | refine Ext.drew ?_ | refine Ext.drewN ?_ _ | refine Ext.setCell ?_ (by first | omega | (simp; done) | (simp; omega)) _ | refine Ext.trans ?_ (by assumption)))⟩
      · have ha' : s.data.toList.all sign = false := by simpa using ha
        have hn : nameOk s.data.toList = false := by simp only [nameOk, ha', Bool.and_false]
        rw [hn]
        have hT := fun w => Trim_not s w hs ha'
        clear hn ha ha' hl e118
        go_enter Tryz.func16, Tryz.ntmps16
        go_wp2_with (first | (go_at_call 50; refine (hT _).mono ?_; rintro e w' ⟨⟨x, rfl, hx⟩, hb⟩; have hx2 : x.toList.isEmpty = false := by simpa using hx))
        go_ret
        exact ⟨rfl, (by repeat (first | exact Ext.refl _ | assumption | refine Ext.alloc ?_ _ | refine Ext.drew ?_ | refine Ext.drewN ?_ _ | refine Ext.setCell ?_ (by first | omega | (simp; done) | (simp; omega)) _ | refine Ext.trans ?_ (by assumption)))⟩
    · have hn : nameOk s.data.toList = false := by
        have : decide (s.data.toList.length ≤ 8) = false := by simp only [hl]; simpa using h8
        simp only [nameOk, this, Bool.and_false, Bool.false_and]
      rw [hn]
      clear hn hl e118
      go_enter Tryz.func16, Tryz.ntmps16
      go_wp2
      go_ret
      exact ⟨rfl, (by repeat (first | exact Ext.refl _ | assumption | refine Ext.alloc ?_ _ | refine Ext.drew ?_ | refine Ext.drewN ?_ _ | refine Ext.setCell ?_ (by first | omega | (simp; done) | (simp; omega)) _ | refine Ext.trans ?_ (by assumption)))⟩
  · have hn : nameOk s.data.toList = false := by
      have : decide (1 ≤ s.data.toList.length) = false := by simp only [hl]; simpa using h1
      simp only [nameOk, this, Bool.false_and]
    rw [hn]
    clear hn hl e118
    go_enter Tryz.func16, Tryz.ntmps16
    go_wp2
    go_ret
    exact ⟨rfl, (by repeat (first | exact Ext.refl _ | assumption | refine Ext.alloc ?_ _ | refine Ext.drew ?_ | refine Ext.drewN ?_ _ | refine Ext.setCell ?_ (by first | omega | (simp; done) | (simp; omega)) _ | refine Ext.trans ?_ (by assumption)))⟩
end Go.Proofs.YtknfaabhlcdeoaaGreatDoor
