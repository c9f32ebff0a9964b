/- Appends of parts of a row, at a step of a region that draws its order. -/
import Derived.Test.YtmmcigpbajlneaaPlaysD
import Derived.Maps.AppendAt
import Derived.Deep.AppendLies
import Derived.Deep.RegionLaw
import Derived.Deep.RegionHeld3
set_option linter.unusedVariables false
set_option linter.unusedSimpArgs false
namespace Go.Proofs.Ytmmcigpbajlneaa
open Go.RowKit

theorem own_form {W : World} {B E sz n : Nat} {v : Value} {xs : List Value} (h : W.ownsRow B E sz v n xs) : ∃ A c, v = .slice A n c := by
  rcases h.2 with ⟨rfl, e⟩ | ⟨b, cap, cur, rfl, _⟩
  · subst e; exact ⟨none, 0, rfl⟩
  · exact ⟨_, cap, rfl⟩

/-- A part of a row, as what is appended. -/
theorem row_news {W : World} {B E b c n : Nat} {xs : List Value} (h : W.ownsRow B E 4 (.slice (some ⟨b, 0, none⟩) n c) n xs) (p m : Nat) : ∀ j u, ((xs.drop p).take m)[j]? = some u → W.cell? ((⟨b, p, none⟩ : Addr).add j) = some u := by
  obtain ⟨cur, hg, _, _, _, _, ht⟩ := own_open h
  intro j u hu
  have hadd : (⟨b, p, none⟩ : Addr).add j = ⟨b, p + j, none⟩ := by unfold Addr.add; split <;> simp_all
  rw [hadd, cells_cell hg, ← Array.getElem?_toList]
  obtain ⟨hj, _⟩ := List.getElem?_eq_some_iff.1 hu
  rw [List.length_take, List.length_drop] at hj
  rw [List.getElem?_take, if_pos (by omega), List.getElem?_drop, ← ht, List.getElem?_take] at hu
  split at hu
  · exact hu
  · cases hu

theorem step_append_own {P : Program} {w : World} {ops : Array Oper} {o : Oper} {a : Act} {K : Act → World → Prop} {Q : Exit → Act → World → Prop} {F : Prop} (hgd : o.guard = none) (s x : Operand) (t : TypeId)
    (ho : o.op = .call { callee := .builtin .append, args := #[s, x], argTypes := #[t, t] })
    (base : Nat) (e : TypeId) (i : TypeInfo) (z : Value) (size bytes : Nat) (ht : P.underlying t = some (.slice e)) (hi : P.info? e = some i) (hz : i.zero = some z)
    (hsize : i.size = size) (hby : i.bytes = bytes) (hzs : z.cells.size = size) (hsz : 0 < size)
    (v : Value) (n : Nat) (xs : List Value) (hs : a.eval s = v) (hown : w.ownsRow base e size v n xs)
    (ad : Addr) (m c : Nat) (news : List Value) (hx : a.eval x = .slice (some ad) m c) (hl : news.length = m * size) (hnews : ∀ j u, news[j]? = some u → w.cell? (ad.add j) = some u) (h1 : ∀ u ∈ news, u.oneCell' = true)
    (h63 : n + m ≤ maxLen) (hbytes : (n + m) * bytes ≤ 140737488355328) (hbase : base ≤ w.heap.size)
    (h : ∀ v' w', w'.ownsRow base e size v' (n + m) (xs ++ news) → w.grownBy w' v.ownBlock → K (a.put o.dst v') w') :
    if Region.wanted o (yielded ops a.tmps) = true then Oper.wp P o a w K Q else F := by
  have hw : Region.wanted o (yielded ops a.tmps) = true := by simp [Region.wanted, hgd]
  rw [if_pos hw]
  obtain ⟨v', w', hr, h2, h3, _, _⟩ := run_append_own_at (P := P) w base t o.type e i z size bytes ht hi hz hsize hby hzs hsz v n xs hown ad m c news hl hnews h1 h63 hbytes hbase
  unfold Oper.wp execOp
  simp only [ho, resolve, invoke, builtin, Sem.run_bind, Sem.run_pure, Result.andThen_ok, List.map_toArray, List.map_cons, List.map_nil, hs, hx, hr]
  exact h v' w' h2 h3

theorem erase_cells (l : List Fr) (k : Nat) (hk : k < l.length) : ([] ++ ((frCells l).drop 0).take (k * 4)) ++ ((frCells l).drop ((k + 1) * 4)).take ((l.length - (k + 1)) * 4) = frCells (l.eraseIdx k) := by
  rw [List.eraseIdx_eq_take_drop_succ, frCells_append, frCells_take, frCells_drop, List.nil_append, List.drop_zero]
  congr 1
  refine List.take_of_length_le ?_
  rw [List.length_drop, frCells_length]
  omega
theorem erase_length (l : List Fr) (k : Nat) (hk : k < l.length) : (l.eraseIdx k).length = 0 + k + (l.length - (k + 1)) := by
  rw [List.length_eraseIdx, if_pos hk]
  omega
end Go.Proofs.Ytmmcigpbajlneaa
