/- rookeryref.DropIn: what is let go waits in a queue. -/
import Derived.Test.YtodogcokljmkmaaBackQ
import Derived.Test.YtodogcokljmkmaaMakeIn
namespace Go.Proofs.Ytodogcokljmkmaa
open Go.RowKit
set_option linter.unusedVariables false

set_option maxRecDepth 100000 in
set_option maxHeartbeats 4000000 in
theorem dropIn_any (w : World) (pb base g n cap : Nat) (s : List Blk) (a : Int) (hn : s.length = n) (h400 : n ≤ 400) (hbox : w.heap[pb]? = some (.cells #[.slice (some ⟨g, 0, none⟩) n cap] 24 (0, 0))) (hR : OwnR w base g s) (hpg : pb ≠ g)
    (hlv : Lv s) (h3 : ∀ x ∈ s, x.level ≤ 3) (hl : Live s) (hrb : RefsB s 1000000000) (ha : a = 0 ∨ (1 ≤ a ∧ a ≤ s.length)) (hp : Letting s a) :
    Calls Try.prog 75 #[.pointer (some ⟨pb, 0, none⟩), .int .i64 a] w fun e w' => e = .returned (.tuple #[]) ∧ OwnR w' base g (looseF 4 s a) ∧ w.grownBy w' (some g) := by
  have HN := Lib.hid hn
  clear hn
  have lp := lt_heap hbox
  have lg := hR.lt
  have hb0 : Below w.heap.size w (w.alloc (.cells #[.int .i64 a] 3)) := (Below.refl _ _).alloc (Nat.le_refl _) _
  have hq0 : Que (w.alloc (.cells #[.int .i64 a] 3)) w.heap.size (.slice (some ⟨w.heap.size, 0, none⟩) 1 1) [a] := Que.one (Nat.le_refl _)
  go_enter Try.func75, Try.ntmps75
  go_wp2
  go_loopg [4] (5 * liveN s + 1) (fun gk v wr => ∃ (t : List Blk) (q : List Int) (w1 : World), gk = 5 * liveN t + q.length ∧ gk ≤ 2001 ∧ w1.heap.size = w.heap.size ∧ w.grownBy w1 (some g) ∧ OwnR w1 base g t ∧ Below w1.heap.size w1 wr ∧ Que wr w.heap.size v q ∧ Going s a t q)
  case atStart => exact ⟨s, [a], w, rfl, by have := liveN_le s; have := HN.out; omega, rfl, grown_of_below (Below.refl _ _) _, hR, hb0, hq0, Going.start hl ha⟩
  case round =>
    obtain ⟨t, q, w1, hgk, hgm, hz, hg1, hR1, hb1, hq, hgo⟩ := hrel
    have HGK := Lib.hid hgk
    have HZ := Lib.hid hz
    clear hgk hz
    cases q with
    | nil =>
      obtain ⟨qg, qo, qc, rfl, h2, h3', h4, h5, h6, h7⟩ := hq
      have HD := Lib.hid (hgo.done hlv h3 hl ha hp)
      clear h6 h7
      go_wp2
      go_end0
      refine ⟨rfl, ?_, ?_⟩
      · rw [← HD.out]; exact hR1.mono hb1
      · exact grown_trans hg1 (grown_of_below hb1 _)
    | cons k q =>
      obtain ⟨qg, qo, qc, hveq, _⟩ := id hq
      rw [List.length_cons] at hveq
      subst hveq
      obtain ⟨hqb, hql, hq1, hq2, hq3, hqcell, hqt, hqe⟩ := hq.tail
      have hlen := hgo.sub.len
      have HLN := Lib.hid hlen
      have hk := hgo.adr k (List.mem_cons_self ..)
      have hq0 : (0 : Int) ≤ (q.length : Int) := by omega
      have hqm : q.length ≤ 2001 := by have := HGK.out; simp only [List.length_cons] at this; omega
      clear hq hlen
      by_cases hk0 : k = 0
      · subst hk0
        have hg0 := hgo.zero
        clear hgo hk
        by_cases hc1 : qc = 1
        · obtain ⟨hqw, rfl⟩ := hqe hc1
          subst hc1
          clear hqe hqt
          go_wp2
          go_roundg (5 * liveN t)
          case measure => have := HGK.out; simp only [List.length_cons] at this; omega
          case rel => exact ⟨t, [], w1, rfl, by have := HGK.out; simp only [List.length_cons] at this; omega, HZ.out, hg1, hR1, hb1, hqw, hg0⟩
        · have hqw := hqt
          clear hqe hqt
          go_wp2
          go_roundg (5 * liveN t + q.length)
          case measure => have := HGK.out; simp only [List.length_cons] at this; omega
          case rel => exact ⟨t, q, w1, rfl, by have := HGK.out; simp only [List.length_cons] at this; omega, HZ.out, hg1, hR1, hb1, hqw, hg0⟩
      · have hk1 := hk.resolve_left hk0
        obtain ⟨j, rfl⟩ : ∃ j : Nat, k = j + 1 := ⟨(k - 1).toNat, by omega⟩
        have hjs : j < s.length := by omega
        have hjt : j < t.length := by have := HLN.out; omega
        have hjn : (j : Int) < n := by have := HN.out; omega
        have hj0 : (0 : Int) ≤ j := by omega
        have hrefs := hgo.refs hp hjt
        have hB := hR1.blks j hjt
        have lg1 := hR1.lt
        have hle := hb1.size
        have lg2 : g < wr.heap.size := Nat.lt_of_lt_of_le lg1 hle
        have tr := (bcell hb1).1
        have c0 := (tr _ _ lg1).trans hB.refs
        have c1 := (tr _ _ lg1).trans hB.level
        obtain ⟨kv, c2, ka, kc, rfl, hkf, hkc⟩ := hB.kids
        obtain ⟨bv, c3, ba, bc, rfl, hbf, hbc⟩ := hB.bytes
        have c2 := (tr _ _ lg1).trans c2
        have c3 := (tr _ _ lg1).trans c3
        have hbox1 := (hg1.block pb lp (by simpa using hpg)).trans hbox
        have lp1 := lt_heap hbox1
        have lp2 : pb < wr.heap.size := Nat.lt_of_lt_of_le lp1 hle
        have d0 := (tr _ 0 lp1).trans (cell_of_one hbox1)
        have fr := fun i => ((bcell hb1).2 g i lg1).trans (hR1.free i)
        have hub := (hgo.sub.each j hjs hjt)
        have hrs := hrb _ (List.getElem_mem hjs)
        have hre : t[j].refs ≤ 1000000000 := by
          rcases hub with e | ⟨_, e, _⟩
          · rw [e]; simp [noBlk]
          · omega
        have hke : ¬ ((j : Int) + 1 = 0) := hk0
        clear hub hrs tr hk0 hk
        by_cases h1 : 1 < t[j].refs
        · have hgn := hgo.less hjt h1
          have hln := liveN_less t j hjt h1
          have hRn := hR1.setRefs j hjt (t[j].refs - 1)
          have hgr := grown_set hg1 ⟨g, j * 4, none⟩ rfl (.int .i64 (t[j].refs - 1))
          have hbn := below_setBoth hb1 ⟨g, j * 4, none⟩ (.int .i64 (t[j].refs - 1)) lg1
          have HB := Lib.hid hbn
          have HL := Lib.hid hln
          clear hbn hln hR1 hg1 hgo
          by_cases hc1 : qc = 1
          · obtain ⟨hqw, rfl⟩ := hqe hc1
            subst hc1
            clear hqe hqt
            go_wp2
            go_roundg (5 * liveN (t.set j { t[j] with refs := t[j].refs - 1 }))
            case measure => have := HGK.out; have := HL.out; simp only [List.length_cons] at *; omega
            case rel => exact ⟨_, [], _, rfl, by have := HGK.out; have := HL.out; simp only [List.length_cons] at *; omega, by simp; exact HZ.out, hgr, hRn, HB.out.alloc HB.out.size _, (hqw.setCell ⟨g, j * 4, none⟩ lg _).mono ((Below.refl _ _).alloc (Nat.le_refl _) _), hgn⟩
          · have hqw := hqt
            clear hqe hqt
            go_wp2
            go_roundg (5 * liveN (t.set j { t[j] with refs := t[j].refs - 1 }) + q.length)
            case measure => have := HGK.out; have := HL.out; simp only [List.length_cons] at *; omega
            case rel => exact ⟨_, q, _, rfl, by have := HGK.out; have := HL.out; simp only [List.length_cons] at *; omega, by simp; exact HZ.out, hgr, hRn, HB.out.alloc HB.out.size _, (hqw.setCell ⟨g, j * 4, none⟩ lg _).mono ((Below.refl _ _).alloc (Nat.le_refl _) _), hgn⟩
        · have hgn := hgo.free hlv hp hjt h1
          have hln := liveN_free t j hjt hrefs
          have hk4 := (hgo.sub.lv hlv _ (List.getElem_mem hjt)).2.1
          have snil : ∀ (kk : IntKind) (wz : World), SlX g kk wz (.slice none 0 0) [] := fun _ _ => ⟨none, 0, rfl, .inl rfl, Nat.le_refl _, fun _ => rfl⟩
          have hRn := hR1.setBlk j hjt noBlk (.slice none 0 0) (.slice none 0 0) (snil _ _) (snil _ _)
          simp only [noBlk] at hRn
          have hgr := grown_set (grown_set (grown_set (grown_set hg1 ⟨g, j * 4, none⟩ rfl (.int .i64 0)) ⟨g, j * 4 + 1, none⟩ rfl (.int .i64 0)) ⟨g, j * 4 + 2, none⟩ rfl (.slice none 0 0)) ⟨g, j * 4 + 3, none⟩ rfl (.slice none 0 0)
          have hbn := below_setBoth (below_setBoth (below_setBoth (below_setBoth hb1 ⟨g, j * 4, none⟩ (.int .i64 0) lg1) ⟨g, j * 4 + 1, none⟩ (.int .i64 0) (by simpa using lg1)) ⟨g, j * 4 + 2, none⟩ (.slice none 0 0) (by simpa using lg1)) ⟨g, j * 4 + 3, none⟩ (.slice none 0 0) (by simpa using lg1)
          have hkrow : Row .i64 ((((wr.setCell ⟨g, j * 4, none⟩ (.int .i64 0)).setCell ⟨g, j * 4 + 1, none⟩ (.int .i64 0)).setCell ⟨g, j * 4 + 2, none⟩ (.slice none 0 0)).setCell ⟨g, j * 4 + 3, none⟩ (.slice none 0 0)) ka t[j].kids := by
            have h2 : FarRow g .i64 wr ka t[j].kids := hkf.keep fun b hb hl => hb1.block b hl
            exact (h2.keep fun b hb _ => by rw [Below.heap_setCell _ _ _ _ hb, Below.heap_setCell _ _ _ _ hb, Below.heap_setCell _ _ _ _ hb, Below.heap_setCell _ _ _ _ hb]).row
          have HB := Lib.hid hbn
          have HL := Lib.hid hln
          clear hbn hln hR1 hg1 hgo hkf hbf
          by_cases hc1 : qc = 1
          · obtain ⟨hqw, rfl⟩ := hqe hc1
            subst hc1
            have hqa := ((((hqw.setCell ⟨g, j * 4, none⟩ lg (.int .i64 0)).setCell ⟨g, j * 4 + 1, none⟩ lg (.int .i64 0)).setCell ⟨g, j * 4 + 2, none⟩ lg (.slice none 0 0)).setCell ⟨g, j * 4 + 3, none⟩ lg (.slice none 0 0)).mono (w' := ((((wr.setCell ⟨g, j * 4, none⟩ (.int .i64 0)).setCell ⟨g, j * 4 + 1, none⟩ (.int .i64 0)).setCell ⟨g, j * 4 + 2, none⟩ (.slice none 0 0)).setCell ⟨g, j * 4 + 3, none⟩ (.slice none 0 0)).alloc (.cells #[.int .i64 t[j].refs, .int .i64 t[j].level, .slice ka t[j].kids.length kc, .slice ba t[j].bytes.length bc] 87)) ((Below.refl _ _).alloc (Nat.le_refl _) _)
            have hka := hkrow.mono (w' := ((((wr.setCell ⟨g, j * 4, none⟩ (.int .i64 0)).setCell ⟨g, j * 4 + 1, none⟩ (.int .i64 0)).setCell ⟨g, j * 4 + 2, none⟩ (.slice none 0 0)).setCell ⟨g, j * 4 + 3, none⟩ (.slice none 0 0)).alloc (.cells #[.int .i64 t[j].refs, .int .i64 t[j].level, .slice ka t[j].kids.length kc, .slice ba t[j].bytes.length bc] 87)) ((Below.refl _ _).alloc (Nat.le_refl _) _)
            have hba := HB.out.alloc HB.out.size (.cells #[.int .i64 t[j].refs, .int .i64 t[j].level, .slice ka t[j].kids.length kc, .slice ba t[j].bytes.length bc] 87)
            have HBA := Lib.hid hba
            have hzz : w.heap.size ≤ (((((wr.setCell ⟨g, j * 4, none⟩ (.int .i64 0)).setCell ⟨g, j * 4 + 1, none⟩ (.int .i64 0)).setCell ⟨g, j * 4 + 2, none⟩ (.slice none 0 0)).setCell ⟨g, j * 4 + 3, none⟩ (.slice none 0 0)).alloc (.cells #[.int .i64 t[j].refs, .int .i64 t[j].level, .slice ka t[j].kids.length kc, .slice ba t[j].bytes.length bc] 87)).heap.size := by have := hb1.size; have := HZ.out; simp; omega
            clear hqe hqt hqw hkrow hba
            go_wp2_with (first
              | (at_builtin; refine append_que rfl (.tmp 50) (.tmp 52) _ rfl 3 w.heap.size Try.underlying36 info_int _ [] t[j].kids ka kc rfl hqa rfl hka ?_ ?_ hzz ?_; rotate_right; intro v' w2 hq2 hb2))
            · go_roundg (5 * liveN (t.set j noBlk) + ([] ++ t[j].kids).length)
              case measure => have := HGK.out; have := HL.out; simp only [List.length_cons, List.length_append, List.length_nil] at *; omega
              case rel => exact ⟨_, [] ++ t[j].kids, _, rfl, by have := HGK.out; have := HL.out; simp only [List.length_cons, List.length_append, List.length_nil] at *; omega, by simp; exact HZ.out, hgr, hRn, HBA.out.trans (hb2.mono (by simp; have := HZ.out; omega)), hq2, hgn⟩
            · first | (unfold maxLen; simp; omega) | (unfold maxLen; omega)
            · first | omega | (simp; omega) | (simp only [List.length_nil]; omega)
          · have hqw := hqt
            have hqa := ((((hqw.setCell ⟨g, j * 4, none⟩ lg (.int .i64 0)).setCell ⟨g, j * 4 + 1, none⟩ lg (.int .i64 0)).setCell ⟨g, j * 4 + 2, none⟩ lg (.slice none 0 0)).setCell ⟨g, j * 4 + 3, none⟩ lg (.slice none 0 0)).mono (w' := ((((wr.setCell ⟨g, j * 4, none⟩ (.int .i64 0)).setCell ⟨g, j * 4 + 1, none⟩ (.int .i64 0)).setCell ⟨g, j * 4 + 2, none⟩ (.slice none 0 0)).setCell ⟨g, j * 4 + 3, none⟩ (.slice none 0 0)).alloc (.cells #[.int .i64 t[j].refs, .int .i64 t[j].level, .slice ka t[j].kids.length kc, .slice ba t[j].bytes.length bc] 87)) ((Below.refl _ _).alloc (Nat.le_refl _) _)
            have hka := hkrow.mono (w' := ((((wr.setCell ⟨g, j * 4, none⟩ (.int .i64 0)).setCell ⟨g, j * 4 + 1, none⟩ (.int .i64 0)).setCell ⟨g, j * 4 + 2, none⟩ (.slice none 0 0)).setCell ⟨g, j * 4 + 3, none⟩ (.slice none 0 0)).alloc (.cells #[.int .i64 t[j].refs, .int .i64 t[j].level, .slice ka t[j].kids.length kc, .slice ba t[j].bytes.length bc] 87)) ((Below.refl _ _).alloc (Nat.le_refl _) _)
            have hba := HB.out.alloc HB.out.size (.cells #[.int .i64 t[j].refs, .int .i64 t[j].level, .slice ka t[j].kids.length kc, .slice ba t[j].bytes.length bc] 87)
            have HBA := Lib.hid hba
            have hzz : w.heap.size ≤ (((((wr.setCell ⟨g, j * 4, none⟩ (.int .i64 0)).setCell ⟨g, j * 4 + 1, none⟩ (.int .i64 0)).setCell ⟨g, j * 4 + 2, none⟩ (.slice none 0 0)).setCell ⟨g, j * 4 + 3, none⟩ (.slice none 0 0)).alloc (.cells #[.int .i64 t[j].refs, .int .i64 t[j].level, .slice ka t[j].kids.length kc, .slice ba t[j].bytes.length bc] 87)).heap.size := by have := hb1.size; have := HZ.out; simp; omega
            clear hqe hqt hqw hkrow hba
            go_wp2_with (first
              | (at_builtin; refine append_que rfl (.tmp 50) (.tmp 52) _ rfl 3 w.heap.size Try.underlying36 info_int _ q t[j].kids ka kc rfl hqa rfl hka ?_ ?_ hzz ?_; rotate_right; intro v' w2 hq2 hb2))
            · go_roundg (5 * liveN (t.set j noBlk) + (q ++ t[j].kids).length)
              case measure => have := HGK.out; have := HL.out; simp only [List.length_cons, List.length_append] at *; omega
              case rel => exact ⟨_, q ++ t[j].kids, _, rfl, by have := HGK.out; have := HL.out; simp only [List.length_cons, List.length_append] at *; omega, by simp; exact HZ.out, hgr, hRn, HBA.out.trans (hb2.mono (by simp; have := HZ.out; omega)), hq2, hgn⟩
            · first | (unfold maxLen; simp; omega) | (unfold maxLen; omega)
            · first | omega | (simp; omega) | (simp only [List.length_nil]; omega)
end Go.Proofs.Ytodogcokljmkmaa
