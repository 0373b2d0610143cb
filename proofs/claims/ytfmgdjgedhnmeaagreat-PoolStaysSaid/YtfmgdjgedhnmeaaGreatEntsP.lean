/- Rows of elements of several cells: what lies there, and what append, copy and clear do to them. No program in sight. · Sets as plain data, and in memory; set.Name. -/
import Derived.Deep.AppendSrc
import Derived.Laws.IdiomCopy
import Derived.Laws.CopyOwn
import Derived.Test.YtfmgdjgedhnmeaaGreatBase
import Derived.BigQuiet
import Derived.Lib.Strings
import Derived.Laws.Cover1
import Derived.Test.YtfmgdjgedhnmeaaGreatSto
namespace Go.Proofs.YtfmgdjgedhnmeaaGreat
open Go.RowKit
set_option linter.unusedVariables false
set_option linter.unusedSimpArgs false
structure Kind (α:Type) where
 cells:α->List Value
 k:Nat
 zero:α
 elem:TypeId
 pos:0<k
 len:∀ x,(cells x).length=k
 one:∀ x,∀ v∈cells x,v.oneCell'=true
section
variable {α:Type} (K:Kind α)
def Kind.all (l:List α):List Value:=l.flatMap K.cells
theorem Kind.all_nil:K.all []=[]:=rfl
theorem Kind.all_cons (x:α) (l:List α):K.all (x::l)=K.cells x++K.all l:=by simp [Kind.all]
theorem Kind.all_append (l m:List α):K.all (l++m)=K.all l++K.all m:=by simp [Kind.all]
theorem Kind.all_len (l:List α):(K.all l).length=l.length*K.k:=by
 induction l with
 | nil=>simp [Kind.all_nil]
 | cons x l ih=>rw [K.all_cons,zMG,ih,K.len,zMT,zN6];omega
theorem Kind.all_one (l:List α):∀ v∈K.all l,v.oneCell'=true:=by
 intro v hv
 obtain ⟨x,_,hx⟩:=List.mem_flatMap.1 hv
 exact K.one x v hx
theorem Kind.all_at (l:List α) (i:Nat) (hi:i<l.length) (j:Nat) (hj:j<K.k):(K.all l)[i*K.k+j]?=(K.cells l[i])[j]?:=by
 induction l generalizing i with
 | nil=>simp at hi
 | cons x l ih=>
  rw [K.all_cons]
  cases i with
  | zero=>rw [zM4 (by rw [K.len];omega)];simp
  | succ i=>
   rw [List.getElem?_append_right (by rw [K.len,zN6];omega),K.len,show (i+1)*K.k+j - K.k=i*K.k+j from by rw [zN6];omega]
   rw [ih i (by simpa using hi)]
   simp
theorem Kind.all_drop (l:List α) (i:Nat):(K.all l).drop (i*K.k)=K.all (l.drop i):=by
 rcases zNp l.length i with h | h
 . rw [zNi (by rw [K.all_len];exact zNr _ (zNQ h)),zNi (zNQ h)];rfl
 . have e:K.all l=K.all (l.take i)++K.all (l.drop i):=by rw [<- K.all_append,zNC]
   have hl:(K.all (l.take i)).length=i*K.k:=by rw [K.all_len,zMI,zNb h]
   rw [e,<- hl,List.drop_left]
theorem Kind.all_take (l:List α) (i:Nat):(K.all l).take (i*K.k)=K.all (l.take i):=by
 rcases zNp l.length i with h | h
 . rw [zMM (by rw [K.all_len];exact zNr _ (zNQ h)),zMM (zNQ h)]
 . have e:K.all l=K.all (l.take i)++K.all (l.drop i):=by rw [<- K.all_append,zNC]
   have hl:(K.all (l.take i)).length=i*K.k:=by rw [K.all_len,zMI,zNb h]
   rw [e,<- hl,List.take_left]
def Kind.Row (w:World) (ao:Option Addr) (l:List α):Prop:=l=[]\/∃ b o,ao=some ⟨b,o,none⟩/\∀ j v,(K.all l)[j]?=some v->w.cell? ⟨b,o+j,none⟩=some v
variable {K}
theorem Kind.Row.at {w:World} {ao:Option Addr} {l:List α} (h:K.Row w ao l) (hl:0<l.length):∃ b o,ao=some ⟨b,o,none⟩/\b<w.heap.size/\∀ j v,(K.all l)[j]?=some v->w.cell? ⟨b,o+j,none⟩=some v:=by
 rcases h with rfl | ⟨b,o,h1,h⟩
 . simp at hl
 . refine ⟨b,o,h1,?_,h⟩
   have hlt:0<(K.all l).length:=by rw [K.all_len];exact Nat.mul_pos hl K.pos
   exact zMx _ _ (h 0 _ (zMt hlt))
theorem Kind.Row.mono {w w':World} {ao:Option Addr} {l:List α} (h:K.Row w ao l) (hb:Below w.heap.size w w'):K.Row w' ao l:=by
 rcases h with rfl | ⟨b,o,rfl,h⟩
 . exact .inl rfl
 . exact .inr ⟨b,o,rfl,fun j v hj=>((bcell hb).1 _ _ (zMx _ _ (h j v hj))).trans (h j v hj)⟩
def Kind.Own (K:Kind α) (w:World) (base:Nat) (v:Value) (l:List α):Prop:=
 (l=[]/\v=.slice none 0 0)\/∃ g cap,∃ sp:List α,v=.slice (some ⟨g,0,none⟩) l.length cap/\base<=g/\cap=l.length+sp.length/\w.heap[g]?=some (.cells (K.all (l++sp)).toArray K.elem (0,0))
theorem Kind.Own.mono {w w':World} {base:Nat} {v:Value} {l:List α} (h:K.Own w base v l) (hb:Below w.heap.size w w'):K.Own w' base v l:=by
 rcases h with h | ⟨g,cap,sp,h1,h2,h3,h4⟩
 . exact .inl h
 . exact .inr ⟨g,cap,sp,h1,h2,h3,Zm hb h4⟩
theorem Kind.row_of_block {w:World} {g:Nat} {l sp:List α} {t:TypeId} (h:w.heap[g]?=some (.cells (K.all (l++sp)).toArray t (0,0))):K.Row w (some ⟨g,0,none⟩) l:=by
 refine .inr ⟨g,0,rfl,fun j v hj=>?_⟩
 rw [zAa h,zML,zMC,K.all_append]
 rw [zM4 (List.getElem?_eq_some_iff.1 hj).1]
 exact hj
theorem Kind.Own.row {w:World} {base:Nat} {v:Value} {l:List α} (h:K.Own w base v l):∃ ao cap,v=.slice ao l.length cap/\K.Row w ao l/\l.length<=cap/\(ao=none->cap=0):=by
 rcases h with ⟨rfl,rfl⟩ | ⟨g,cap,sp,h1,h2,h3,h4⟩
 . exact ⟨none,0,rfl,.inl rfl,zMs _,fun _=>rfl⟩
 . exact ⟨_,cap,h1,Kind.row_of_block h4,by omega,fun h=>by cases h⟩
theorem Kind.Own.weaken {w:World} {base base':Nat} {v:Value} {l:List α} (h:K.Own w base v l) (hb:base'<=base):K.Own w base' v l:=by
 rcases h with h | ⟨g,cap,sp,h1,h2,h3,h4⟩
 . exact .inl h
 . exact .inr ⟨g,cap,sp,h1,by omega,h3,h4⟩
theorem Kind.zeros (z:Value) (hz:z.cells=(K.cells K.zero).toArray) (m:Nat):Builtin.zeroCells z.cells m=(K.all (List.replicate m K.zero)).toArray:=by
 have hs:z.cells.size=K.k:=by rw [hz,zOa,K.len]
 apply Array.ext
 . rw [size_zeroCells,hs,zOa,K.all_len,zNh]
 . intro i h1 h2
   have hi:i<m*K.k:=by rw [zOa,K.all_len,zNh] at h2;exact h2
   have hq:i / K.k<m:=Nat.div_lt_of_lt_mul (by rw [Nat.mul_comm];exact hi)
   have hr:i%K.k<K.k:=zNu _ K.pos
   have h3:=K.all_at (List.replicate m K.zero) (i / K.k) (by rw [zNh];exact hq) (i%K.k) hr
   rw [show i / K.k*K.k+i%K.k=i from by rw [Nat.mul_comm];exact Nat.div_add_mod i K.k,List.getElem_replicate] at h3
   have h4:(K.all (List.replicate m K.zero))[i]?=some ((K.all (List.replicate m K.zero)).toArray[i]):=by
    rw [List.getElem_toArray];exact zMt _
   rw [h4] at h3
   have h6:(Builtin.zeroCells z.cells m)[i]=z.cells[i%z.cells.size]!:=by simp [Builtin.zeroCells]
   rw [h6,hs]
   have h5:z.cells[i%K.k]?=some ((K.all (List.replicate m K.zero)).toArray[i]):=by rw [hz,zMC,<- h3]
   rw [Array.getElem!_eq_getD,Array.getD_eq_getD_getElem?,h5]
   rfl
theorem Kind.run_clone {P:Program} (w:World) (t ty:TypeId) (i0:TypeInfo) (z:Value) (bytes:Nat) (ht:P.underlying t=some (.slice K.elem)) (hi:P.info? K.elem=some i0) (hz0:i0.zero=some z) (hsz:i0.size=K.k) (hby:i0.bytes=bytes)
 (hz:z.cells=(K.cells K.zero).toArray) (g b o c:Nat) (l:List α) (h0:0<l.length) (hbig:l.length*bytes<=140737488355328) (h63:l.length<=9223372036854775807) (hl:∀ j v,(K.all l)[j]?=some v->w.cell? ⟨b,o+j,none⟩=some v) :
 ∃ cap sp,(Builtin.append_ #[t,t] ty #[.slice (some ⟨g,0,none⟩) 0 0,.slice (some ⟨b,o,none⟩) l.length c]).run P w=.ok (.slice (some ⟨w.heap.size,0,none⟩) l.length cap) (w.drew.alloc (.cells (K.all (l++sp)).toArray K.elem))/\cap=l.length+sp.length:=by
 have hsrc:Src P i0.size t (.slice (some ⟨b,o,none⟩) l.length c) l.length (K.all l) w:=
  Src.ofSlice w ht ⟨b,o,none⟩ l.length c (K.all l) (by rw [K.all_len,hsz]) (fun j u hj=>by rw [show (⟨b,o,none⟩:Addr).add j=⟨b,o+j,none⟩ from by unfold Addr.add;split<;>simp_all];exact hl j u hj) (K.all_one l)
 have hold:(Builtin.firstCells i0.size 0 (.slice (some ⟨g,0,none⟩) 0 0)).run P w.drew=.ok ([]:List Value).toArray w.drew:=
  run_firstCells_some w.drew i0.size 0 ⟨g,0,none⟩ 0 0 [] (by simp) (by simp)
 have hrun:=run_append_grow_src w t t ty K.elem i0 z ht hi hz0 (some ⟨g,0,none⟩) 0 0 [] hold _ l.length (K.all l) hsrc (by omega) (by omega) (by rw [hby];exact growslice_fits (by omega) (by rw [zML];exact hbig))
 have hge:=grownCap_ge w (0+l.length) 0 K.elem
 rw [zML] at hrun hge
 refine ⟨grownCap w l.length 0 K.elem,List.replicate (grownCap w l.length 0 K.elem - l.length) K.zero,?_,by rw [zNh];omega⟩
 rw [hrun,Kind.zeros z hz,zNy,K.all_append,zNS]
theorem zIt {β:Type} (L:List β) (o:Nat) (v:β) (r:List β) (h:o<L.length):splice (L.set o v) (o+1) r=splice L o (v::r):=by
 unfold splice
 rw [zN2,if_pos h]
 have hl:(L.take o++[v]).length=o+1:=by rw [zMG,zMI];simp;omega
 have e:L.take o++v::L.drop (o+1)=(L.take o++[v])++L.drop (o+1):=by simp
 rw [e,zOs hl,zN1,hl,zNi (by rw [hl];omega),zNy,List.drop_drop]
 simp only [zM8,List.cons_append,zNy,zMT]
 congr 4
 omega
theorem zCG {g t:Nat}:∀ (vs:List Value) (o:Nat) (w:World) (cs:List Value),w.heap[g]?=some (.cells cs.toArray t (0,0))->o+vs.length<=cs.length->(w.setCells g o vs).heap[g]?=some (.cells (splice cs o vs).toArray t (0,0))
 | [],o,w,cs,h,_=>by simpa [World.setCells,splice] using h
 | v::r,o,w,cs,h,hl=>by
  rw [zMT] at hl
  have h1:=zAe h o v
  have e:cs.toArray.setIfInBounds o v=(cs.set o v).toArray:=by simp
  rw [e] at h1
  have h2:=zCG r (o+1) _ _ h1 (by rw [zMK];omega)
  rw [zIt cs o v r (by omega)] at h2
  exact h2
theorem zFR {base g:Nat} {w w0:World} (h:Below base w0 w) (hg:base<=g):∀ (vs:List Value) (o:Nat),Below base w0 (w.setCells g o vs):=by
 intro vs o
 induction vs generalizing w o with
 | nil=>exact h
 | cons v r ih=>exact ih (h.setCell hg v) (o+1)
theorem zAl {w:World} {g:Nat}:∀ (vs:List Value) (o b:Nat),b≠g->(w.setCells g o vs).heap[b]?=w.heap[b]?:=by
 intro vs o b hb
 induction vs generalizing w o with
 | nil=>rfl
 | cons v r ih=>rw [World.setCells,ih];exact zMu _ _ _ _ hb
variable (K)
theorem Kind.splice (L M:List α) (i:Nat):splice (K.all L) (i*K.k) (K.all M)=K.all (splice L i M):=by
 unfold Go.splice
 rw [K.all_append,K.all_append,K.all_take,K.all_len M,<- zN6,K.all_drop]
variable {K}
theorem Kind.setCells {w:World} {g t:Nat} {L:List α} (h:w.heap[g]?=some (.cells (K.all L).toArray t (0,0))) (i:Nat) (M:List α) (hl:i+M.length<=L.length) :
 (w.setCells g (i*K.k) (K.all M)).heap[g]?=some (.cells (K.all (Go.splice L i M)).toArray t (0,0)):=by
 rw [<- K.splice]
 exact zCG _ _ _ _ h (by rw [K.all_len,K.all_len,<- zN6];exact zNr _ hl)
theorem Kind.isCell {w:World} {g t:Nat} {L:List α} (h:w.heap[g]?=some (.cells (K.all L).toArray t (0,0))) (j:Nat) (hj:j<L.length*K.k):(w.cell? ⟨g,j,none⟩).isSome=true:=by
 rw [zAa h,zMC,zMt (by rw [K.all_len];exact hj)]
 rfl
theorem Kind.run_copy {P:Program} (w:World) (t ty:TypeId) (ht:P.underlying t=some (.slice K.elem)) (hs:(P.info? K.elem).map (·.size)=some K.k) (g i dLen dCap sLen sCap:Nat) (a:Addr) (tb:Nat) (L M:List α)
 (h:w.heap[g]?=some (.cells (K.all L).toArray tb (0,0))) (hm:M.length=Nat.min sLen dLen) (hi:i+M.length<=L.length) (hsrc:∀ j v,(K.all M)[j]?=some v->w.cell? (a.add j)=some v) :
 (Builtin.copy_ #[t,t] ty #[.slice (some ⟨g,i*K.k,none⟩) dLen dCap,.slice (some a) sLen sCap]).run P w=.ok (goInt M.length) (w.setCells g (i*K.k) (K.all M)):=by
 have hl:=run_loadCells_list (P:=P) w a (K.all M) hsrc
 have hb:∀ j,j<(K.all M).length->i*K.k+j<L.length*K.k:=by
  intro j hj
  rw [K.all_len] at hj
  have h1:(i+M.length)*K.k<=L.length*K.k:=zNr _ hi
  rw [zN6] at h1
  omega
 have hst:=run_storeCells_cells (P:=P) g (i*K.k) (K.all M) 0 w (fun j hj=>by rw [zOz];exact Kind.isCell h _ (hb j hj)) (fun j hj=>zAc h _) (K.all_one M)
 rw [K.all_len] at hl
 cases hq:P.info? K.elem with
 | none=>simp [hq] at hs
 | some i0=>
  have hsz:i0.size=K.k:=by simpa [hq] using hs
  simp [Builtin.copy_,run_underlying ht,Builtin.lenOf,Builtin.firstCells,sizeOf,typeInfo,hq,hsz,<- hm,hl,hst]
end
structure Ent where
 nm:ByteArray
 root:Int
 size:Int
structure Snp where
 nm:ByteArray
 files:List Ent
structure SetV where
 nm:ByteArray
 files:List Ent
 snaps:List Snp
def nameC (c:Int):Bool:=(decide (97<=c)&&decide (c<=122))||(decide (48<=c)&&decide (c<=57))
def zCb (s:ByteArray) (k:Nat):Bool:=(s.data.toList.take k).all (fun c=>nameC (c.toNat:Int))
def nameB (s:ByteArray):Bool:=decide (0<s.size)&&(decide (s.size<=8)&&zCb s s.size)
theorem zIB (s:ByteArray):zCb s 0=true:=by simp [zCb]
theorem zEZ (s:ByteArray) (k:Nat) (h:k<s.size):zCb s (k+1)=(zCb s k&&nameC ((s[k]'h).toNat:Int)):=by
 have hl:k<s.data.toList.length:=by rw [zOn];exact h
 unfold zCb
 rw [zMD hl,zOq]
 have e:s.data.toList[k]=s[k]'h:=by
  cases s with
  | mk d=>rw [Array.getElem_toList];rfl
 simp [e]
theorem zHZ (s:ByteArray) (k:Nat) (h:zCb s k=false) (hk:k<=s.size):nameB s=false:=by
 have:zCb s s.size=false:=by
  unfold zCb at h ⊢
  rw [List.all_eq_false] at h ⊢
  obtain ⟨x,hx,hc⟩:=h
  refine ⟨x,?_,hc⟩
  rw [zMM (by rw [zOn];exact zMs _)]
  exact zNl hx
 simp [nameB,this]
theorem zLU (s:ByteArray):(s.toList==[])=decide (s.size=0):=by
 rw [ByteArray.toList_eq]
 cases s with
 | mk d=>
  rw [zOt,beq_iff_eq,decide_eq_true_eq]
  constructor
  . intro h
    have:=congrArg List.length h
    exact this
  . intro h
    exact zMv h
theorem str_none:ByteArray.toList { data:=#[] }=[]:=by rw [ByteArray.toList_eq]
theorem zKE:ByteArray.toList ByteArray.empty=[]:=by rw [ByteArray.toList_eq];rfl
theorem zLs (s:ByteArray) (k:Nat) (h:k<s.size) (hk:zCb s k=true):(nameC ((s[k]'h).toNat:Int)=true->zCb s (k+1)=true)/\(nameC ((s[k]'h).toNat:Int)=false->nameB s=false):=by
 refine ⟨fun h1=>by rw [zEZ s k h,hk,h1];rfl,fun h1=>zHZ s (k+1) (by rw [zEZ s k h,h1];simp) (by omega)⟩
set_option maxRecDepth 100000 in
set_option maxHeartbeats 4000000 in
theorem zBR (w:World) (s:ByteArray):Calls Tryz.prog 54 #[.string s] w fun e w'=>e=.returned (.bool (nameB s))/\w'=w:=by
 have he:=zLU s
 have he1:=str_none
 have he2:=zKE
 by_cases h0:s.size=0
 . have HR:=lH (show nameB s=false by simp [nameB,h0])
   rw [h0] at he
   replace he:(s.toList==[])=true:=he.trans rfl
   go_enter Tryz.func54,Tryz.ntmps54
   go_wp2
   go_ret
   exact ⟨zBi HR.out.symm,rfl⟩
 replace he:(s.toList==[])=false:=he.trans (decide_eq_false h0)
 by_cases h8:8<s.size
 . have HR:=lH (show nameB s=false by simp [nameB];omega)
   have h8':(8:Int)<s.size:=by omega
   go_enter Tryz.func54,Tryz.ntmps54
   go_wp2
   go_ret
   exact ⟨zBi HR.out.symm,rfl⟩
 have h8':¬ (8:Int)<s.size:=by omega
 have HL:=lH (fun k (h:k<s.size) (hk:zCb s k=true)=>zLs s k h hk)
 have HF:Hid (zCb s s.size=true->nameB s=true):=lH fun h=>by simp [nameB,h];omega
 go_enter Tryz.func54,Tryz.ntmps54
 go_wp2
 go_loopw [14] (fun i wr=>∃ k:Nat,k<=s.size/\i=.int .i64 k/\Hid (zCb s k=true)/\wr=w) (fun i _=>s.size - (intOf i).toNat)
 case atStart=>exact ⟨0,zMO _,rfl,lH (zIB s),rfl⟩
 case round=>
  obtain ⟨k,hk,rfl,HK,rfl⟩:=hrel
  by_cases hlt:k<s.size
  . have hn:=HL.out k hlt HK.out
    have hn1:=lH hn.1
    have hn2:=lH hn.2
    have hlt':(k:Int)<s.size:=by omega
    have hk8:(k:Int)<8:=by omega
    clear hn
    obtain ⟨c,hc⟩:∃ c:Int,((s[k]'hlt).toNat:Int)=c:=⟨_,rfl⟩
    rw [hc] at hn1 hn2
    rcases (show c<48\/(48<=c/\c<=57)\/(57<c/\c<97)\/(97<=c/\c<=122)\/122<c from by omega) with h | h | h | h | h
    . have e1:c<97:=by omega
      have e2:c<48:=by omega
      have hb:=hn2.out (by simp [nameC];omega)
      have HR:=lH hb
      clear hb hn1 hn2 h
      go_wp2
      go_ret
      exact ⟨zBi HR.out.symm,rfl⟩
    . have e1:c<97:=by omega
      have e2:¬ c<48:=by omega
      have e3:¬ 57<c:=by omega
      have HK2:=lH (hn1.out (by simp [nameC];omega))
      clear hn1 hn2 h
      go_wp2
      go_roundw
      case rel=>exact ⟨k+1,by omega,by go_num,HK2,trivial⟩
      case measure=>simp [intOf];omega
    . have e1:c<97:=by omega
      have e2:¬ c<48:=by omega
      have e3:57<c:=by omega
      have hb:=hn2.out (by simp [nameC];omega)
      have HR:=lH hb
      clear hb hn1 hn2 h
      go_wp2
      go_ret
      exact ⟨zBi HR.out.symm,rfl⟩
    . have e1:¬ c<97:=by omega
      have e2:¬ 122<c:=by omega
      have HK2:=lH (hn1.out (by simp [nameC];omega))
      clear hn1 hn2 h
      go_wp2
      go_roundw
      case rel=>exact ⟨k+1,by omega,by go_num,HK2,trivial⟩
      case measure=>simp [intOf];omega
    . have e1:¬ c<97:=by omega
      have e2:122<c:=by omega
      have e3:¬ c<48:=by omega
      have e4:57<c:=by omega
      have hb:=hn2.out (by simp [nameC];omega)
      have HR:=lH hb
      clear hb hn1 hn2 h
      go_wp2
      go_ret
      exact ⟨zBi HR.out.symm,rfl⟩
  . obtain rfl:k=s.size:=by omega
    have hf:=lH (HF.out HK.out)
    go_wp2
    go_ret
    exact ⟨zBi hf.out.symm,rfl⟩
def entK:Kind Ent where
 cells x:=[.string x.nm,.int .i64 x.root,.int .i64 x.size]
 k:=3
 zero:=⟨⟨#[]⟩,0,0⟩
 elem:=76
 pos:=by omega
 len _:=rfl
 one x v hv:=by
  simp only [zNP,zNG,or_false] at hv
  rcases hv with rfl | rfl | rfl<;>rfl
structure Snv where
 nm:ByteArray
 ao:Option Addr
 n:Nat
 cap:Nat
def snvK:Kind Snv where
 cells x:=[.string x.nm,.slice x.ao x.n x.cap]
 k:=2
 zero:=⟨⟨#[]⟩,none,0,0⟩
 elem:=79
 pos:=by omega
 len _:=rfl
 one x v hv:=by
  simp only [zNP,zNG,or_false] at hv
  rcases hv with rfl | rfl<;>rfl
structure EntAt (w:World) (b o:Nat) (x:Ent):Prop where
 nm:w.cell? ⟨b,o,none⟩=some (.string x.nm)
 root:w.cell? ⟨b,o+1,none⟩=some (.int .i64 x.root)
 size:w.cell? ⟨b,o+2,none⟩=some (.int .i64 x.size)
theorem EntAt.lt {w:World} {b o:Nat} {x:Ent} (h:EntAt w b o x):b<w.heap.size:=zMx _ _ h.nm
theorem EntAt.mono {w w':World} {b o:Nat} {x:Ent} (h:EntAt w b o x) (hb:Below w.heap.size w w'):EntAt w' b o x:=by
 have hc:=(bcell hb).1 b
 have hl:=h.lt
 exact ⟨(hc _ hl).trans h.nm,(hc _ hl).trans h.root,(hc _ hl).trans h.size⟩
def zBy (w:World) (ao:Option Addr) (l:List Ent):Prop:=entK.Row w ao l
theorem zBy.mono {w w':World} {ao:Option Addr} {l:List Ent} (h:zBy w ao l) (hb:Below w.heap.size w w'):zBy w' ao l:=Kind.Row.mono h hb
theorem zBz {l:List Ent} {w:World} {b o:Nat} (h:∀ j v,(entK.all l)[j]?=some v->w.cell? ⟨b,o+j,none⟩=some v) (i:Nat) (hi:i<l.length):EntAt w b (o+i*3) l[i]:=by
 have key:∀ j,j<3->∀ v,(entK.cells l[i])[j]?=some v->w.cell? ⟨b,o+i*3+j,none⟩=some v:=by
  intro j hj v hv
  rw [Nat.add_assoc]
  exact h _ v ((entK.all_at l i hi j hj).trans hv)
 exact ⟨key 0 (by omega) _ rfl,key 1 (by omega) _ rfl,key 2 (by omega) _ rfl⟩
theorem zBy.at {w:World} {ao:Option Addr} {l:List Ent} (h:zBy w ao l) (i:Nat) (hi:i<l.length):∃ b o,ao=some ⟨b,o,none⟩/\∀ i (h:i<l.length),EntAt w b (o+i*3) l[i]:=by
 obtain ⟨b,o,h1,_,h2⟩:=Kind.Row.at h (by omega)
 exact ⟨b,o,h1,fun i hi=>zBz h2 i hi⟩
structure SnvAt (w:World) (b o:Nat) (x:Snv):Prop where
 nm:w.cell? ⟨b,o,none⟩=some (.string x.nm)
 sl:w.cell? ⟨b,o+1,none⟩=some (.slice x.ao x.n x.cap)
theorem SnvAt.lt {w:World} {b o:Nat} {x:Snv} (h:SnvAt w b o x):b<w.heap.size:=zMx _ _ h.nm
theorem SnvAt.mono {w w':World} {b o:Nat} {x:Snv} (h:SnvAt w b o x) (hb:Below w.heap.size w w'):SnvAt w' b o x:=by
 have hc:=(bcell hb).1 b
 have hl:=h.lt
 exact ⟨(hc _ hl).trans h.nm,(hc _ hl).trans h.sl⟩
theorem zDK {l:List Snv} {w:World} {b o:Nat} (h:∀ j v,(snvK.all l)[j]?=some v->w.cell? ⟨b,o+j,none⟩=some v) (i:Nat) (hi:i<l.length):SnvAt w b (o+i*2) l[i]:=by
 have key:∀ j,j<2->∀ v,(snvK.cells l[i])[j]?=some v->w.cell? ⟨b,o+i*2+j,none⟩=some v:=by
  intro j hj v hv
  rw [Nat.add_assoc]
  exact h _ v ((snvK.all_at l i hi j hj).trans hv)
 exact ⟨key 0 (by omega) _ rfl,key 1 (by omega) _ rfl⟩
theorem SnvRow.at {w:World} {ao:Option Addr} {l:List Snv} (h:snvK.Row w ao l) (i:Nat) (hi:i<l.length):∃ b o,ao=some ⟨b,o,none⟩/\∀ i (h:i<l.length),SnvAt w b (o+i*2) l[i]:=by
 obtain ⟨b,o,h1,_,h2⟩:=Kind.Row.at h (by omega)
 exact ⟨b,o,h1,fun i hi=>zDK h2 i hi⟩
def Snv.Is (w:World) (v:Snv) (y:Snp):Prop:=v.nm=y.nm/\v.n=y.files.length/\zBy w v.ao y.files/\Capd v.ao v.n v.cap
theorem Snv.Is.mono {w w':World} {v:Snv} {y:Snp} (h:v.Is w y) (hb:Below w.heap.size w w'):v.Is w' y:=⟨h.1,h.2.1,h.2.2.1.mono hb,h.2.2.2⟩
def zGa (w:World) (ao:Option Addr) (l:List Snp):Prop:=∃ vs:List Snv,vs.length=l.length/\snvK.Row w ao vs/\∀ i (h:i<vs.length) (h':i<l.length),vs[i].Is w l[i]
theorem zGa.mono {w w':World} {ao:Option Addr} {l:List Snp} (h:zGa w ao l) (hb:Below w.heap.size w w'):zGa w' ao l:=by
 obtain ⟨vs,h1,h2,h3⟩:=h
 exact ⟨vs,h1,h2.mono hb,fun i a b=>(h3 i a b).mono hb⟩
end Go.Proofs.YtfmgdjgedhnmeaaGreat
