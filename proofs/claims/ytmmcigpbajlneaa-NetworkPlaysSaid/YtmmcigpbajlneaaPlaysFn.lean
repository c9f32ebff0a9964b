/- NetworkPlays: the function. Laid by wip/mkplaysfn.py. -/
import Derived.Test.YtmmcigpbajlneaaPlaysJoin
set_option linter.unusedVariables false
set_option linter.unusedSimpArgs false
namespace Go.Proofs.Ytmmcigpbajlneaa
open Go.RowKit
set_option maxRecDepth 1000000

theorem plays_new (w : World) (B : Nat) (hB : B = w.heap.size) : Plays (w.alloc (.cells #[.slice none 0 0] 26)) B (.slice none 0 0) (.slice none 0 0) [] := by
  subst hB
  exact ⟨netAt_new w, rfl, .inl ⟨rfl, rfl⟩⟩

def FillRel (g : Nat) (w1 : World) (u kv : Value) (wr : World) : Prop := ∃ (k : Nat) (v : Value) (U : Option Addr) (cu : Nat), k ≤ 1022 ∧ u = .slice U k cu ∧ kv = .int .i64 (k : Int) ∧ Plays wr g v (.slice U k cu) (fills k) ∧ Below g w1 wr
/-- The frames that are left in the network from the k-th on. -/
def DrainRel (g : Nat) (w1 : World) (u : Value) (l : List Fr) (kv : Value) (wr : World) : Prop := ∃ (k : Nat) (v : Value), k ≤ l.length ∧ kv = .int .i64 (k : Int) ∧ Half wr g v u (l.drop k) l ∧ Below g w1 wr

theorem fills_small (k : Nat) : ∀ x ∈ fills k, x.s.size ≤ 60 := by
  intro x hx
  unfold fills at hx
  obtain ⟨j, _, rfl⟩ := List.mem_map.1 hx
  show (⟨#[120]⟩ : ByteArray).size ≤ 60
  decide
theorem drain_next (l : List Fr) (k : Nat) (hk : k < l.length) : (l.drop k)[place 0 (l.drop k).length]? = some l[k] ∧ (l.drop k).eraseIdx (place 0 (l.drop k).length) = l.drop (k + 1) := by
  have h0 : place 0 (l.drop k).length = 0 := by unfold place; simp
  rw [h0]
  constructor
  · simp [hk]
  · rw [List.drop_eq_getElem_cons hk]; rfl

set_option maxHeartbeats 16000000 in
theorem plays_calls (A : Option Addr) (n c : Nat) (f : Nat → Actv) (fill : Int) (w : World) (ha : ActsAt w A n f) :
    Calls Try.prog 3 #[.slice A n c, .int .i64 fill] w fun e w' => e = .returned (.bool true) ∧ Below w.heap.size w w' := by
  obtain ⟨i0, hi0, hz0, hz1, hz2⟩ := info_parts infoRef
  have HA := Lib.hid ha
  have hn63 := ha.small
  clear ha
  cases hB : (bits .and .i64 fill 15 == (15 : Int))
  · go_enter Try.func3, Try.ntmps3
    go_wp2_with fail
    refine (speaks_calls _).mono ?_
    rintro e w1 ⟨rfl, hb1⟩
    have HP0 := Lib.hid (plays_new w1 w1.heap.size rfl)
    have HB0 := Lib.hid ((Below.refl w1.heap.size w1).alloc (Nat.le_refl _) (.cells #[.slice none 0 0] 26))
    have HA1 := Lib.hid (HA.out.below hb1)
    have HB1 := Lib.hid hb1
    have hg0 : w.heap.size ≤ w1.heap.size := hb1.size
    clear hb1
    go_wp2_with fail
    refine main_loop (A := A) (n := n) (c := c) (g := w1.heap.size) (u := .slice none 0 0) (v := .slice none 0 0) (i := 0) (l := []) (f := f) (w1 := w1) ⟨Nat.zero_le _, by decide, HP0.out, HB0.out, rfl, by decide, by simp, HA1.out⟩ _ rfl ?_
    intro a' w' hI
    obtain ⟨u, v, i, l, fr, h, rfl⟩ := hI
    have hfew := h.few
    have hlen : u = u := rfl
    obtain ⟨U, cu, hu⟩ : ∃ U cu, u = .slice U l.length cu := own_form h.plays.row
    subst hu
    have HP := Lib.hid h.plays
    have HB := Lib.hid h.below
    have HH0 := Lib.hid (⟨h.plays.net, h.plays.row⟩ : Half w' w1.heap.size v (.slice U l.length cu) l l)
    clear h hlen
    unfold mainFrame
    go_wp2_with fail
    go_loopw [19] (fun kv wr => DrainRel w1.heap.size w1 (.slice U l.length cu) l kv wr) (fun kv _ => 1024 - (intOf kv).toNat)
    case atStart => exact ⟨0, v, Nat.zero_le _, rfl, HH0.out, HB.out⟩
    obtain ⟨k, v5, hk, rfl, hh, hb⟩ := hrel
    have HH := Lib.hid hh
    have HB5 := Lib.hid hb
    have hzr := hb.size
    clear hh hb
    by_cases hlt : k < l.length
    · obtain ⟨e1, e2⟩ := drain_next l k hlt
      have LK := Lib.hid (fun (wx : World) (hN : NetAt wx w1.heap.size w1.heap.size v5 (l.drop k)) => take_some 0 l[k] hN (by rw [List.length_drop]; omega) e1)
      rw [e2] at LK
      have hyk : l[k]? = some l[k] := List.getElem?_eq_getElem hlt
      generalize l[k] = y at *
      have HYK := Lib.hid hyk
      clear e1 e2 hyk
      unfold Fr.agg at LK
      go_wp2_with fail
      refine (LK.out _ HH.out.net).mono ?_
      rintro e w6 ⟨rfl, hn6⟩
      obtain ⟨v6, h6, hb6, hc6, _⟩ := Now.next HH.out.net HB5.out hn6
      have hr6 := hc6.row HH.out.net HH.out.row (by decide) (by decide)
      have hpos : 0 < l.length := by omega
      obtain ⟨b, cu2, hub⟩ := own_some hr6 hpos
      injection hub with hub1 _ hub3
      subst hub1
      subst hub3
      obtain ⟨d0, d1, d2, d3⟩ := row_cells hr6 k y HYK.out
      have hbl6 := (hr6.lt b rfl).2
      have HN6 := Lib.hid (Half.mk h6 hr6)
      have HB6 := Lib.hid hb6
      have hz6 := hb6.size
      have e1 : (0 : Int) ≤ (k : Int) := by omega
      clear hn6 h6 hb6 hc6 hr6
      go_wp2_with fail
      go_quiet (fail)
      go_wp2_with fail
      go_roundw
      case rel =>
        exact ⟨k + 1, v6, by omega, by go_num, (HN6.out.alloc _).below (below_drewN (Below.refl _ _) _), below_drewN (HB6.out.alloc (by omega) _) _⟩
      case measure => simp [intOf]; omega
    · obtain rfl : k = l.length := by omega
      have LK := Lib.hid (fun (wx : World) (hN : NetAt wx w1.heap.size w1.heap.size v5 (l.drop l.length)) => count_calls hN)
      rw [List.drop_length] at LK
      have HN := HH.out.net
      rw [List.drop_length] at HN
      replace HN := Lib.hid HN
      go_wp2_with fail
      refine (LK.out _ HN.out).mono ?_
      rintro e w6 ⟨rfl, rfl⟩
      go_wp2_with fail
      go_ret
      exact ⟨rfl, HB1.out.trans (HB5.out.mono hg0)⟩
  · go_enter Try.func3, Try.ntmps3
    go_wp2_with fail
    refine (speaks_calls _).mono ?_
    rintro e w1 ⟨rfl, hb1⟩
    have HP0 := Lib.hid (plays_new w1 w1.heap.size rfl)
    have HB0 := Lib.hid ((Below.refl w1.heap.size w1).alloc (Nat.le_refl _) (.cells #[.slice none 0 0] 26))
    have HA1 := Lib.hid (HA.out.below hb1)
    have HB1 := Lib.hid hb1
    have hg0 : w.heap.size ≤ w1.heap.size := hb1.size
    clear hb1
    go_wp2_with fail
    go_loopw [6, 7] (fun u kv wr => FillRel w1.heap.size w1 u kv wr) (fun _ kv _ => 1022 - (intOf kv).toNat)
    case atStart => exact ⟨0, _, _, _, by omega, rfl, rfl, HP0.out, HB0.out⟩
    obtain ⟨k, v, U, cu, hk, rfl, rfl, hp, hb⟩ := hrel
    by_cases hlt : k < 1022
    · have HP := Lib.hid hp
      have HB := Lib.hid hb
      have hzr := hb.size
      have LK := Lib.hid (fun (wx : World) (hN : NetAt wx w1.heap.size w1.heap.size v (fills k)) (hz : w1.heap.size ≤ wx.heap.size) => send_calls (k : Int) 0 ⟨#[120]⟩ hN hz (by rw [fills_length]; omega))
      clear hp hb
      go_wp2_with fail
      refine (LK.out _ HP.out.net hzr).mono ?_
      rintro e w3 ⟨rfl, hn3⟩
      obtain ⟨v3, hh3, hb3, _⟩ := HP.out.half HB.out hn3
      have HH := Lib.hid hh3
      have HB3 := Lib.hid hb3
      have hz3 := hb3.size
      clear hn3 hh3 hb3
      go_wp2_with (at_builtin; refine wpList_append_own_at _ rfl (.tmp 33) (.tmp 36) 27 rfl w1.heap.size 30 i0 (.agg #[.int .i64 0, .int .i64 0, .string ⟨#[]⟩, .bool false]) 4 40 Try.underlying27 hi0 hz0 hz1 hz2 rfl (by decide) (.slice U k cu) k (frCells (fills k)) rfl (by have := HH.out.row.alloc (.cells #[.int .i64 (k : Int), .int .i64 0, .string ⟨#[120]⟩, .bool false] 30); rw [fills_length] at this; exact this) ⟨w3.heap.size, 0, none⟩ 1 1 [.int .i64 (k : Int), .int .i64 0, .string ⟨#[120]⟩, .bool false] rfl rfl ?c1 ?c2 ?c3 ?c4 ?c5 ?next)
      case c1 => exact World.news_of_block (cs := #[.int .i64 (k : Int), .int .i64 0, .string ⟨#[120]⟩, .bool false]) (t := 30) (fr := (0, 0)) (heap_alloc_new w3 _)
      case c2 => intro u hu; simp only [List.mem_cons, List.not_mem_nil, or_false] at hu; rcases hu with rfl | rfl | rfl | rfl <;> rfl
      case c3 => simp only [maxLen]; omega
      case c4 => omega
      case c5 => simp; omega
      case next =>
        intro v4 w4 hown hg4 _ _
        have hown' : w4.ownsRow w1.heap.size 30 4 v4 ((fills k).length + [(⟨(k : Int), 0, ⟨#[120]⟩, false⟩ : Fr)].length) (frCells (fills k) ++ frCells [⟨(k : Int), 0, ⟨#[120]⟩, false⟩]) := by rw [fills_length]; exact hown
        obtain ⟨A4, c4, rfl⟩ := own_form hown
        have hP0 := HH.out.appended (m := [⟨(k : Int), 0, ⟨#[120]⟩, false⟩]) ((Below.refl _ _).alloc (Nat.le_refl _) _) hown' hg4
        rw [← fills_succ] at hP0
        have HP := Lib.hid hP0
        have HB4 := Lib.hid (row_grown_below (HB3.out.alloc (by omega) _) (by simp; omega) (HH.out.row.alloc _) hg4)
        clear hown hown' hg4 HH HB3 hP0
        go_wp2_with fail
        go_roundw
        case rel => exact ⟨k + 1, v3, _, _, by omega, rfl, by go_num, HP.out, HB4.out⟩
        case measure => simp [intOf]; omega
    · obtain rfl : k = 1022 := by omega
      have HP := Lib.hid hp
      have HB := Lib.hid hb
      clear hp hb
      go_wp2_with fail
      refine main_loop (A := A) (n := n) (c := c) (g := w1.heap.size) (u := .slice U 1022 cu) (v := v) (i := 0) (l := fills 1022) (f := f) (w1 := w1) ⟨Nat.zero_le _, by decide, HP.out, HB.out, rfl, by rw [fills_length]; decide, fills_small _, HA1.out⟩ _ rfl ?_
      intro a' w' hI
      obtain ⟨u, v, i, l, fr, h, rfl⟩ := hI
      have hfew := h.few
      have hlen : u = u := rfl
      obtain ⟨U, cu, hu⟩ : ∃ U cu, u = .slice U l.length cu := own_form h.plays.row
      subst hu
      have HP := Lib.hid h.plays
      have HB := Lib.hid h.below
      have HH0 := Lib.hid (⟨h.plays.net, h.plays.row⟩ : Half w' w1.heap.size v (.slice U l.length cu) l l)
      clear h hlen
      unfold mainFrame
      go_wp2_with fail
      go_loopw [19] (fun kv wr => DrainRel w1.heap.size w1 (.slice U l.length cu) l kv wr) (fun kv _ => 1024 - (intOf kv).toNat)
      case atStart => exact ⟨0, v, Nat.zero_le _, rfl, HH0.out, HB.out⟩
      obtain ⟨k, v5, hk, rfl, hh, hb⟩ := hrel
      have HH := Lib.hid hh
      have HB5 := Lib.hid hb
      have hzr := hb.size
      clear hh hb
      by_cases hlt : k < l.length
      · obtain ⟨e1, e2⟩ := drain_next l k hlt
        have LK := Lib.hid (fun (wx : World) (hN : NetAt wx w1.heap.size w1.heap.size v5 (l.drop k)) => take_some 0 l[k] hN (by rw [List.length_drop]; omega) e1)
        rw [e2] at LK
        have hyk : l[k]? = some l[k] := List.getElem?_eq_getElem hlt
        generalize l[k] = y at *
        have HYK := Lib.hid hyk
        clear e1 e2 hyk
        unfold Fr.agg at LK
        go_wp2_with fail
        refine (LK.out _ HH.out.net).mono ?_
        rintro e w6 ⟨rfl, hn6⟩
        obtain ⟨v6, h6, hb6, hc6, _⟩ := Now.next HH.out.net HB5.out hn6
        have hr6 := hc6.row HH.out.net HH.out.row (by decide) (by decide)
        have hpos : 0 < l.length := by omega
        obtain ⟨b, cu2, hub⟩ := own_some hr6 hpos
        injection hub with hub1 _ hub3
        subst hub1
        subst hub3
        obtain ⟨d0, d1, d2, d3⟩ := row_cells hr6 k y HYK.out
        have hbl6 := (hr6.lt b rfl).2
        have HN6 := Lib.hid (Half.mk h6 hr6)
        have HB6 := Lib.hid hb6
        have hz6 := hb6.size
        have e1 : (0 : Int) ≤ (k : Int) := by omega
        clear hn6 h6 hb6 hc6 hr6
        go_wp2_with fail
        go_quiet (fail)
        go_wp2_with fail
        go_roundw
        case rel =>
          exact ⟨k + 1, v6, by omega, by go_num, (HN6.out.alloc _).below (below_drewN (Below.refl _ _) _), below_drewN (HB6.out.alloc (by omega) _) _⟩
        case measure => simp [intOf]; omega
      · obtain rfl : k = l.length := by omega
        have LK := Lib.hid (fun (wx : World) (hN : NetAt wx w1.heap.size w1.heap.size v5 (l.drop l.length)) => count_calls hN)
        rw [List.drop_length] at LK
        have HN := HH.out.net
        rw [List.drop_length] at HN
        replace HN := Lib.hid HN
        go_wp2_with fail
        refine (LK.out _ HN.out).mono ?_
        rintro e w6 ⟨rfl, rfl⟩
        go_wp2_with fail
        go_ret
        exact ⟨rfl, HB1.out.trans (HB5.out.mono hg0)⟩
end Go.Proofs.Ytmmcigpbajlneaa
