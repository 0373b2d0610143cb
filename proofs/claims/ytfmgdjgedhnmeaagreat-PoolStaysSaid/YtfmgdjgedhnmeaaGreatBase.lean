/- Readings of slices and stores; carried over new memory. No program in sight. -/
import Derived.WalkKit
import Derived.WalkLawsBesides
import Derived.WalkSpells
import Derived.BigQuiet
import Derived.Outline
import Derived.Lib.Hide
import Derived.Deep.OwnRows
import Derived.Laws.AppendOwnNone
import Derived.Laws.BytesArg
import Derived.Lib.Bytes
namespace Go.Proofs.YtfmgdjgedhnmeaaGreat
open Go.RowKit
theorem lH : type_of% @Lib.hid := @Lib.hid
set_option linter.unusedVariables false
set_option linter.unusedSimpArgs false
theorem zMr:type_of% @List.getElem_mem:=@List.getElem_mem
theorem zMs:type_of% @Nat.le_refl:=@Nat.le_refl
theorem zMt:type_of% @List.getElem?_eq_getElem:=@List.getElem?_eq_getElem
theorem zMu:type_of% @Below.heap_setCell:=@Below.heap_setCell
theorem zMv:type_of% @List.eq_nil_of_length_eq_zero:=@List.eq_nil_of_length_eq_zero
theorem zMw:type_of% @Nat.lt_of_lt_of_le:=@Nat.lt_of_lt_of_le
theorem zMx:type_of% @World.block_lt_of_cell?:=@World.block_lt_of_cell?
theorem zMy:type_of% @Below.refl:=@Below.refl
theorem zMz:type_of% @Option.some.injEq:=@Option.some.injEq
theorem zMA:type_of% @List.length_map:=@List.length_map
theorem zMB:type_of% @World.cell?_of_block:=@World.cell?_of_block
theorem zMC:type_of% @List.getElem?_toArray:=@List.getElem?_toArray
theorem zMD:type_of% @List.take_succ_eq_append_getElem:=@List.take_succ_eq_append_getElem
theorem zME:type_of% @Addr.mk.injEq:=@Addr.mk.injEq
theorem zMF:type_of% @List.length_drop:=@List.length_drop
theorem zMG:type_of% @List.length_append:=@List.length_append
theorem zMH:type_of% @List.getD_eq_getElem?_getD:=@List.getD_eq_getElem?_getD
theorem zMI:type_of% @List.length_take:=@List.length_take
theorem zMJ:type_of% @Nat.eq_zero_or_pos:=@Nat.eq_zero_or_pos
theorem zMK:type_of% @List.length_set:=@List.length_set
theorem zML:type_of% @Nat.zero_add:=@Nat.zero_add
theorem zMM:type_of% @List.take_of_length_le:=@List.take_of_length_le
theorem zMN:type_of% @Nat.le_trans:=@Nat.le_trans
theorem zMO:type_of% @Nat.zero_le:=@Nat.zero_le
theorem zMP:type_of% @List.getElem_set:=@List.getElem_set
theorem zMQ:type_of% @World.cell?_setCell_same:=@World.cell?_setCell_same
theorem zMR:type_of% @List.getElem_of_mem:=@List.getElem_of_mem
theorem zMS:type_of% @List.setIfInBounds_toArray:=@List.setIfInBounds_toArray
theorem zMT:type_of% @List.length_cons:=@List.length_cons
theorem zMU:type_of% @List.mem_or_eq_of_mem_set:=@List.mem_or_eq_of_mem_set
theorem zMV:type_of% @Array.getElem?_eq_none:=@Array.getElem?_eq_none
theorem zMW:type_of% @Bool.and_eq_true:=@Bool.and_eq_true
theorem zMX:type_of% @List.getElem_append_right:=@List.getElem_append_right
theorem zMY:type_of% @List.getElem_append_left:=@List.getElem_append_left
theorem zMZ:type_of% @List.count_append:=@List.count_append
theorem zM0:type_of% @List.flatMap_cons:=@List.flatMap_cons
theorem zM1:type_of% @List.eraseIdx_eq_take_drop_succ:=@List.eraseIdx_eq_take_drop_succ
theorem zM2:type_of% @List.getElem_map:=@List.getElem_map
theorem zM3:type_of% @Option.getD_some:=@Option.getD_some
theorem zM4:type_of% @List.getElem?_append_left:=@List.getElem?_append_left
theorem zM5:type_of% @Below.heap_alloc:=@Below.heap_alloc
theorem zM6:type_of% @List.mem_of_getElem?:=@List.mem_of_getElem?
theorem zM7:type_of% @List.set_cons_zero:=@List.set_cons_zero
theorem zM8:type_of% @List.append_assoc:=@List.append_assoc
theorem zM9:type_of% @List.set_cons_succ:=@List.set_cons_succ
theorem zNa:type_of% @List.foldl_cons:=@List.foldl_cons
theorem zNb:type_of% @Nat.min_eq_left:=@Nat.min_eq_left
theorem zNc:type_of% @Int.le_refl:=@Int.le_refl
theorem zNd:type_of% @List.ext_getElem:=@List.ext_getElem
theorem zNe:type_of% @World.cell?_setCell_other:=@World.cell?_setCell_other
theorem zNf:type_of% @Classical.byContradiction:=@Classical.byContradiction
theorem zNg:type_of% @Option.some.inj:=@Option.some.inj
theorem zNh:type_of% @List.length_replicate:=@List.length_replicate
theorem zNi:type_of% @List.drop_of_length_le:=@List.drop_of_length_le
theorem zNj:type_of% @List.count_le_length:=@List.count_le_length
theorem zNk:type_of% @Bool.or_eq_true:=@Bool.or_eq_true
theorem zNl:type_of% @List.mem_of_mem_take:=@List.mem_of_mem_take
theorem zNm:type_of% @List.length_eraseIdx:=@List.length_eraseIdx
theorem zNn:type_of% @List.count_cons_of_ne:=@List.count_cons_of_ne
theorem zNo:type_of% @List.mem_append:=@List.mem_append
theorem zNp:type_of% @Nat.lt_or_ge:=@Nat.lt_or_ge
theorem zNq:type_of% @List.mem_cons_of_mem:=@List.mem_cons_of_mem
theorem zNr:type_of% @Nat.mul_le_mul_right:=@Nat.mul_le_mul_right
theorem zNs:type_of% @List.getElem?_drop:=@List.getElem?_drop
theorem zNt:type_of% @List.getElem?_eq_none:=@List.getElem?_eq_none
theorem zNu:type_of% @Nat.mod_lt:=@Nat.mod_lt
theorem zNv:type_of% @List.flatMap_append:=@List.flatMap_append
theorem zNw:type_of% @List.map_cons:=@List.map_cons
theorem zNx:type_of% @Option.map_some:=@Option.map_some
theorem zNy:type_of% @List.nil_append:=@List.nil_append
theorem zNz:type_of% @List.drop_eq_getElem_cons:=@List.drop_eq_getElem_cons
theorem zNA:type_of% @Int.toNat_natCast:=@Int.toNat_natCast
theorem zNB:type_of% @Below.size:=@Below.size
theorem zNC:type_of% @List.take_append_drop:=@List.take_append_drop
theorem zND:type_of% @List.take_succ_cons:=@List.take_succ_cons
theorem zNE:type_of% @List.eraseIdx_sublist:=@List.eraseIdx_sublist
theorem zNF:type_of% @List.all_eq_true:=@List.all_eq_true
theorem zNG:type_of% @List.not_mem_nil:=@List.not_mem_nil
theorem zNH:type_of% @List.take_zero:=@List.take_zero
theorem zNI:type_of% @World.cells?_some:=@World.cells?_some
theorem zNJ:type_of% @List.mem_cons_self:=@List.mem_cons_self
theorem zNK:type_of% @List.length_nil:=@List.length_nil
theorem zNL:type_of% @List.take_append_of_le_length:=@List.take_append_of_le_length
theorem zNM:type_of% @List.drop_succ_cons:=@List.drop_succ_cons
theorem zNN:type_of% @Lib.run_eql_slice_nil:=@Lib.run_eql_slice_nil
theorem zNO:type_of% @List.getElem_take:=@List.getElem_take
theorem zNP:type_of% @List.mem_cons:=@List.mem_cons
theorem zNQ:type_of% @Nat.le_of_lt:=@Nat.le_of_lt
theorem zNR:type_of% @List.take_length:=@List.take_length
theorem zNS:type_of% @List.append_toArray:=@List.append_toArray
theorem zNT:type_of% @List.map_congr_left:=@List.map_congr_left
theorem zNU:type_of% @List.count_cons:=@List.count_cons
theorem zNV:type_of% @List.map_append:=@List.map_append
theorem zNW:type_of% @List.append_nil:=@List.append_nil
theorem zNX:type_of% @List.getElem_set_self:=@List.getElem_set_self
theorem zNY:type_of% @List.getElem?_take:=@List.getElem?_take
theorem zNZ:type_of% @List.any_eq_true:=@List.any_eq_true
theorem zN0:type_of% @List.drop_append_of_le_length:=@List.drop_append_of_le_length
theorem zN1:type_of% @List.drop_append:=@List.drop_append
theorem zN2:type_of% @List.set_eq_take_append_cons_drop:=@List.set_eq_take_append_cons_drop
theorem zN3:type_of% @List.mem_singleton:=@List.mem_singleton
theorem zN4:type_of% @List.getElem_eraseIdx:=@List.getElem_eraseIdx
theorem zN5:type_of% @Classical.choose_spec:=@Classical.choose_spec
theorem zN6:type_of% @Nat.add_mul:=@Nat.add_mul
theorem zN7:type_of% @IntWalk.i64_in:=@IntWalk.i64_in
theorem zN8:type_of% @Array.getElem_append_left:=@Array.getElem_append_left
theorem zN9:type_of% @List.drop_zero:=@List.drop_zero
theorem zOa:type_of% @List.size_toArray:=@List.size_toArray
theorem zOb:type_of% @Bool.eq_false_iff:=@Bool.eq_false_iff
theorem zOc:type_of% @Prod.mk.injEq:=@Prod.mk.injEq
theorem zOd:type_of% @List.sum_cons:=@List.sum_cons
theorem zOe:type_of% @List.range_succ:=@List.range_succ
theorem zOf:type_of% @List.set_getElem_self:=@List.set_getElem_self
theorem zOg:type_of% @List.foldl_append:=@List.foldl_append
theorem zOh:type_of% @List.getElem?_map:=@List.getElem?_map
theorem zOi:type_of% @List.map_drop:=@List.map_drop
theorem zOj:type_of% @List.getElem_drop:=@List.getElem_drop
theorem zOk:type_of% @Array.getElem_append_right:=@Array.getElem_append_right
theorem zOl:type_of% @List.drop_length:=@List.drop_length
theorem zOm:type_of% @Nat.le_add_right:=@Nat.le_add_right
theorem zOn:type_of% @Array.length_toList:=@Array.length_toList
theorem zOo:type_of% @Nat.le_succ:=@Nat.le_succ
theorem zOp:type_of% @Nat.zero_mul:=@Nat.zero_mul
theorem zOq:type_of% @List.all_append:=@List.all_append
theorem zOr:type_of% @List.mem_filter:=@List.mem_filter
theorem zOs:type_of% @List.take_left':=@List.take_left'
theorem zOt:type_of% @Bool.eq_iff_iff:=@Bool.eq_iff_iff
theorem zOu:type_of% @Bool.true_and:=@Bool.true_and
theorem zOv:type_of% @Bool.false_eq_true:=@Bool.false_eq_true
theorem zOw:type_of% @Nat.lt_or_eq_of_le:=@Nat.lt_or_eq_of_le
theorem zOx:type_of% @Int.natCast_nonneg:=@Int.natCast_nonneg
theorem zOy:type_of% @List.count_nil:=@List.count_nil
theorem zOz:type_of% @Nat.add_zero:=@Nat.add_zero
theorem zOA:type_of% @Nat.le_of_eq:=@Nat.le_of_eq
theorem zOB:type_of% @Int.add_zero:=@Int.add_zero
def Row (k:IntKind) (w:World) (ao:Option Addr) (xs:List Int):Prop:=
 xs=[]\/∃ b o,ao=some ⟨b,o,none⟩/\∀ i (h:i<xs.length),w.cell? ⟨b,o+i,none⟩=some (.int k xs[i])
def Byt (xs:List Int):Prop:=∀ x∈xs,0<=x/\x<=255
theorem Byt.at {xs:List Int} (h:Byt xs) (i:Nat) (hi:i<xs.length):0<=xs[i]/\xs[i]<=255:=h _ (zMr hi)
theorem Row.at {k:IntKind} {w:World} {ao:Option Addr} {xs:List Int} (h:Row k w ao xs) (i:Nat) (hi:i<xs.length) :
 ∃ b o,ao=some ⟨b,o,none⟩/\∀ j (h:j<xs.length),w.cell? ⟨b,o+j,none⟩=some (.int k xs[j]):=by
 rcases h with rfl | h
 . simp at hi
 . exact h
theorem Row.mono {k:IntKind} {w w':World} {ao:Option Addr} {xs:List Int} (h:Row k w ao xs) (hb:Below w.heap.size w w'):Row k w' ao xs:=by
 rcases h with rfl | ⟨b,o,rfl,h⟩
 . exact .inl rfl
 . refine .inr ⟨b,o,rfl,fun i hi=>?_⟩
   have hc:=h i hi
   have hlt:=zMx _ _ hc
   rw [hb.cell (p:=⟨b,o+i,none⟩) hlt]
   exact hc
theorem zAd {a b c:World} (h:Below a.heap.size a b) (k:Below b.heap.size b c):Below a.heap.size a c:=h.trans (k.mono h.size)
theorem bcell {W w1:World} (hb:Below W.heap.size W w1):(∀ b o,b<W.heap.size->w1.cell? ⟨b,o,none⟩=W.cell? ⟨b,o,none⟩)/\(∀ b o,b<W.heap.size->w1.frozen? ⟨b,o,none⟩=W.frozen? ⟨b,o,none⟩):=
 ⟨fun b o h=>hb.cell (p:=⟨b,o,none⟩) h,fun b o h=>hb.frozen (p:=⟨b,o,none⟩) h⟩
theorem zAa {w:World} {g:Nat} {cs:Array Value} {t:TypeId} (h:w.heap[g]?=some (.cells cs t (0,0))) (j:Nat):w.cell? ⟨g,j,none⟩=cs[j]?:=cell_of_row w g j cs t (0,0) h
theorem zAc {w:World} {g:Nat} {cs:Array Value} {t:TypeId} (h:w.heap[g]?=some (.cells cs t (0,0))) (j:Nat):w.frozen? ⟨g,j,none⟩=false:=by simp [World.frozen?,h]
def icells (k:IntKind) (xs:List Int):Array Value:=(xs.map (Value.int k)).toArray
theorem zBK (k:IntKind) (xs:List Int) (i:Nat) (h:i<xs.length):(icells k xs)[i]?=some (.int k xs[i]):=by simp [icells,h]
theorem zFB (k:IntKind) (xs:List Int):(icells k xs).size=xs.length:=by simp [icells]
theorem zDf (k:IntKind) (xs:List Int) (i:Nat) (x:Int):(icells k xs).setIfInBounds i (.int k x)=icells k (xs.set i x):=by
 simp [icells,List.map_set]
theorem row_of_block {w:World} {g:Nat} {k:IntKind} {t:TypeId} {xs:List Int} (h:w.heap[g]?=some (.cells (icells k xs) t (0,0))):Row k w (some ⟨g,0,none⟩) xs:=
 .inr ⟨g,0,rfl,fun i hi=>by rw [zML,zAa h,zBK k xs i hi]⟩
theorem zAb {w:World} {g:Nat} {o:Obj} (h:w.heap[g]?=some o):g<w.heap.size:=(Array.getElem?_eq_some_iff.1 h).1
theorem zAe {w:World} {g:Nat} {cs:Array Value} {t:TypeId} (h:w.heap[g]?=some (.cells cs t (0,0))) (i:Nat) (v:Value) :
 (w.setCell ⟨g,i,none⟩ v).heap[g]?=some (.cells (cs.setIfInBounds i v) t (0,0)):=heap_setCell_same w g i cs t v h
theorem zAh {w:World} {g:Nat} {a:Addr} {v:Value} {o:Obj} (h:w.heap[g]?=some o) (hn:g≠a.block):(w.setCell a v).heap[g]?=some o:=by
 rw [heap_setCell_other w a g v hn];exact h
theorem zJu {w:World} {g:Nat} {k:IntKind} {t:TypeId} {xs:List Int} (h:w.heap[g]?=some (.cells (icells k xs) t (0,0))) (i:Nat) (hi:i<xs.length) :
 ∃ y,w.cell? ⟨g,i,none⟩=some (.int k y):=⟨xs[i],by rw [zAa h,zBK k xs i hi]⟩
def zeros (n:Nat):List Int:=List.replicate n 0
theorem zFP (k:IntKind) (n:Nat):madeCells #[.int k 0] n=icells k (zeros n):=by
 rw [<- Array.toList_inj,toList_madeCells_one]
 simp [icells,zeros]
theorem make_ints {P:Program} (k:IntKind) (t e bytes:Nat) (ht:P.underlying t=some (.slice e)) (hinfo:(P.info? e).map (fun i=>(i.zero,i.size,i.bytes))=some (some (.int k 0),1,bytes))
 (n:Nat) (hbytes:bytes*n<=281474976710656) (h63:n<=9223372036854775807) (w:World) :
 (Instr.makeSlice t (.int .i64 (n:Int)) (.int .i64 (n:Int))).run P w=.ok (.slice (some ⟨w.heap.size,0,none⟩) n n) (w.alloc (.cells (icells k (zeros n)) e)):=by
 rw [<- zFP]
 exact run_make_row' t e (.int k 0) bytes ht hinfo rfl .i64 .i64 n hbytes h63 w
def Own (k:IntKind) (e base:Nat) (w:World) (v:Value) (xs:List Int):Prop:=w.ownsRow base e 1 v xs.length (xs.map (Value.int k))
theorem Own.nil (k:IntKind) (e base:Nat) (w:World):Own k e base w (.slice none 0 0) []:=World.ownsRow_nil _ _ _ _
theorem Own.empty (k:IntKind) (e:Nat) (w:World):Own k e w.heap.size (w.alloc (.cells #[] e)) (.slice (some ⟨w.heap.size,0,none⟩) 0 0) []:=
 World.ownsRow_lit (base:=w.heap.size) (e:=e) (size:=1) w #[] 0 (zMs _) (zMO _) rfl
theorem Own.mono {k:IntKind} {e base:Nat} {w w':World} {v:Value} {xs:List Int} (h:Own k e base w v xs) (hb:Below w.heap.size w w'):Own k e base w' v xs:=by
 obtain ⟨h1,h2⟩:=h
 refine ⟨h1,?_⟩
 rcases h2 with h2 | ⟨g,cap,cur,hv,hg,hh,r⟩
 . exact .inl h2
 . exact .inr ⟨g,cap,cur,hv,hg,by rw [hb.block g (zAb hh)];exact hh,r⟩
theorem Own.block {k:IntKind} {e base:Nat} {w:World} {v:Value} {xs:List Int} (h:Own k e base w v xs) :
 (v=.slice none 0 0/\xs=[])\/∃ g cap cur,v=.slice (some ⟨g,0,none⟩) xs.length cap/\base<=g/\w.heap[g]?=some (.cells cur e (0,0))/\xs.length<=cap/\cap<=maxLen/\cur.size=cap/\
  cur.toList.take xs.length=xs.map (Value.int k):=by
 obtain ⟨h1,h2⟩:=h
 rcases h2 with ⟨h2,h3⟩ | ⟨g,cap,cur,hv,hg,hh,hn,hc,hs,ht⟩
 . exact .inl ⟨h2,zMv h3⟩
 . exact .inr ⟨g,cap,cur,hv,hg,hh,hn,hc,by simpa using hs,by simpa using ht⟩
theorem Own.cell {k:IntKind} {e base:Nat} {w:World} {g cap n:Nat} {xs:List Int} (h:Own k e base w (.slice (some ⟨g,0,none⟩) n cap) xs) (i:Nat) (hi:i<xs.length) :
 w.cell? ⟨g,i,none⟩=some (.int k xs[i]):=by
 rcases h.block with ⟨h1,_⟩ | ⟨g',cap',cur,hv,hg,hh,hn,hc,hs,ht⟩
 . cases h1
 . simp only [Value.slice.injEq,zMz,zME] at hv
   obtain ⟨⟨rfl,_⟩,_,_⟩:=hv
   rw [zAa hh]
   have e1:(cur.toList.take xs.length)[i]?=(xs.map (Value.int k))[i]?:=by rw [ht]
   rw [zNY,if_pos hi] at e1
   simp [hi] at e1
   simpa using e1
theorem Own.at {k:IntKind} {e base:Nat} {w:World} {v:Value} {xs:List Int} (h:Own k e base w v xs) (i:Nat) (hi:i<xs.length) :
 ∃ g cap,v=.slice (some ⟨g,0,none⟩) xs.length cap/\base<=g/\w.cell? ⟨g,i,none⟩=some (.int k xs[i])/\w.frozen? ⟨g,i,none⟩=false/\g<w.heap.size:=by
 rcases h.block with ⟨rfl,rfl⟩ | ⟨g,cap,cur,rfl,hg,hh,hn,hc,hs,ht⟩
 . simp at hi
 . exact ⟨g,cap,rfl,hg,h.cell i hi,zAc hh i,zAb hh⟩
theorem Own.set {k:IntKind} {e base:Nat} {w:World} {g n cap:Nat} {xs:List Int} (h:Own k e base w (.slice (some ⟨g,0,none⟩) n cap) xs) (i:Nat) (y:Int) :
 Own k e base (w.setCell ⟨g,i,none⟩ (.int k y)) (.slice (some ⟨g,0,none⟩) n cap) (xs.set i y):=by
 have hn:n=xs.length:=by
  rcases h.block with ⟨h1,_⟩ | ⟨_,_,_,hv,_⟩
  . cases h1
  . simp only [Value.slice.injEq] at hv;exact hv.2.1
 subst hn
 have:=(World.ownsRow.stored h i (.int k y)).1
 unfold Own
 rw [zMK,List.map_set]
 exact this
theorem zEc {P:Program} {w:World} {ops:Array Oper} {rest:List Oper} {o:Oper} {a:Act} {Q:Exit->Act->World->Prop} (hgd:o.guard=none) (s x:Operand) (t:TypeId)
 (ho:o.op=.call { callee:=.builtin .append,args:=#[s,x],argTypes:=#[t,t] })
 (k:IntKind) (e bytes base:Nat) (ht:P.underlying t=some (.slice e)) (hinfo:(P.info? e).map (fun i=>(i.zero,i.size,i.bytes))=some (some (.int k 0),1,bytes))
 (v:Value) (xs:List Int) (y:Int) (hs:a.eval s=v) (hown:Own k e base w v xs) (g:Nat) (hx:a.eval x=.slice (some ⟨g,0,none⟩) 1 1) (hg:g=w.heap.size)
 (h63:xs.length+1<=maxLen) (hbytes:(xs.length+1)*bytes<=140737488355328) (hbase:base<=w.heap.size)
 (h:∀ v' w',Own k e base w' v' (xs++[y])->Below base w w'->wpList P ops Q rest (a.put o.dst v') w') :
 wpList P ops Q (o::rest) a (w.alloc (.cells #[.int k y] e)):=by
 subst hg
 obtain ⟨i0,hi,hz0,hz1,hz2⟩:=info_parts hinfo
 refine wpList_append_own _ hgd s x t ho base e i0 (.int k 0) 1 bytes ht hi hz0 hz1 hz2 rfl (by decide) v _ _ hs (World.ownsRow.alloc hown _) ⟨w.heap.size,0,none⟩ 1 1 [.int k y] hx rfl ?_ ?_ h63 hbytes (by simp;omega) ?_
 . intro j u hj
   match j,hj with
   | 0,hj=>simp at hj;subst hj;simp [Addr.add]
 . intro u hu;simp at hu;subst hu;rfl
 . intro v' w' hown' hg _
   refine h v' w' (by unfold Own;simpa using hown') ?_
   have h1:Below base w (w.alloc (.cells #[.int k y] e)):=(zMy _ _).alloc hbase _
   refine h1.grown hg (by simp;omega) fun j hj=>?_
   exact (World.ownsRow.lt hown j hj).1
theorem zDv {P:Program} {w:World} {ops:Array Oper} {rest:List Oper} {o:Oper} {a:Act} {Q:Exit->Act->World->Prop} (hgd:o.guard=none) (s x:Operand) (t:TypeId)
 (ho:o.op=.call { callee:=.builtin .append,args:=#[s,x],argTypes:=#[t,t] })
 (k:IntKind) (e bytes base:Nat) (ht:P.underlying t=some (.slice e)) (hinfo:(P.info? e).map (fun i=>(i.zero,i.size,i.bytes))=some (some (.int k 0),1,bytes))
 (v:Value) (xs ys:List Int) (ao:Option Addr) (c:Nat) (hs:a.eval s=v) (hown:Own k e base w v xs) (hx:a.eval x=.slice ao ys.length c) (hrow:Row k w ao ys) (hc0:ao=none->c=0)
 (h63:xs.length+ys.length<=maxLen) (hbytes:(xs.length+ys.length)*bytes<=140737488355328) (hbase:base<=w.heap.size)
 (h:∀ v' w',Own k e base w' v' (xs++ys)->Below base w w'->(v'=.slice none 0 0->v=.slice none 0 0)->wpList P ops Q rest (a.put o.dst v') w') :
 wpList P ops Q (o::rest) a w:=by
 obtain ⟨i0,hi,hz0,hz1,hz2⟩:=info_parts hinfo
 cases ao with
 | none=>
  have hy:ys=[]:=by
   rcases hrow with h | ⟨_,_,h,_⟩
   . exact h
   . cases h
  subst hy
  obtain rfl:=hc0 rfl
  refine wpList_plain hgd fun K hK'=>?_
  have hrun:=run_append_owned_none (P:=P) w base t o.type e i0 1 ht hi _ _ _ hown
  unfold Oper.wp
  simp only [zNK] at hx
  simp [execOp,ho,resolve,invoke,builtin,hs,hx,hrun,Result.andThen]
  exact hK' _ _ (by simpa using h v w (by simpa using hown) (zMy _ _) (fun h=>h))
 | some ad=>
  refine wpList_append_own _ hgd s x t ho base e i0 (.int k 0) 1 bytes ht hi hz0 hz1 hz2 rfl (by decide) v _ _ hs hown ad ys.length c (ys.map (Value.int k)) hx (by simp) ?_ (ints_oneCell k ys) h63 hbytes hbase ?_
  . intro j u hj
    have hlt:j<ys.length:=by simpa using (List.getElem?_eq_some_iff.1 hj).1
    obtain ⟨b,o,hao,hc⟩:=hrow.at j hlt
    obtain rfl:=zNg hao
    have e1:(⟨b,o,none⟩:Addr).add j=⟨b,o+j,none⟩:=by unfold Addr.add;split<;>simp_all
    rw [e1,hc j hlt]
    simpa [hlt] using hj
  . intro v' w' hown' hg hv
    refine h v' w' (by unfold Own;simpa using hown') ?_ (fun h=>((hv.1 h).1))
    exact (zMy _ _).grown hg hbase fun j hj=>(World.ownsRow.lt hown j hj).1
theorem Own.shape' {k:IntKind} {e base:Nat} {w:World} {v:Value} {xs:List Int} (h:Own k e base w v xs) :
 ∃ ao cap,v=.slice ao xs.length cap/\xs.length<=cap/\cap<=maxLen/\Row k w ao xs/\(ao=none->cap=0):=by
 rcases h.block with ⟨rfl,rfl⟩ | ⟨g,cap,cur,rfl,hg,hh,hn,hc,hs,ht⟩
 . exact ⟨none,0,rfl,zMs _,zMO _,.inl rfl,fun _=>rfl⟩
 . exact ⟨_,cap,rfl,hn,hc,.inr ⟨g,0,rfl,fun i hi=>by rw [zML];exact h.cell i hi⟩,fun h=>by cases h⟩
theorem zON (xs ys:List Int) (hx:Byt xs) (hy:Byt ys):((strOfNums xs).toList==(strOfNums ys).toList)=(xs==ys):=by
 have key:∀ (xs ys:List Int),Byt xs->Byt ys->xs.map (fun n=>UInt8.ofNat n.toNat)=ys.map (fun n=>UInt8.ofNat n.toNat)->xs=ys:=by
  intro xs
  induction xs with
  | nil=>intro ys _ _ h;cases ys with
   | nil=>rfl
   | cons y ys=>simp at h
  | cons x xs ih=>intro ys hx hy h;cases ys with
   | nil=>simp at h
   | cons y ys=>
    simp only [zNw,List.cons.injEq] at h
    have hx0:=hx x (by simp)
    have hy0:=hy y (by simp)
    have h1:x.toNat%256=y.toNat%256:=by
     have:=congrArg UInt8.toNat h.1
     simpa using this
    rw [ih ys (fun a ha=>hx a (by simp [ha])) (fun a ha=>hy a (by simp [ha])) h.2,show x=y from by omega]
 rw [zOt]
 simp only [beq_iff_eq]
 constructor
 . intro h
   refine key xs ys hx hy ?_
   rw [Lib.strOfNums_toList,Lib.strOfNums_toList] at h
   exact h
 . rintro rfl;rfl
theorem row_open {k:IntKind} {w:World} {x:Addr} {zs:List Int} {len:Nat} (hc:∀ i,i<zs.length->w.cell? (x.add i)=some (.int k (zs.getD i 0))):Row k w (some x) (zs.take len):=by
 rcases zMJ (zs.take len).length with h | h
 . exact .inl (zMv h)
 . have h0:0<zs.length:=by simp at h;omega
   obtain ⟨b,o,s⟩:=x
   have hs:s=none:=by
    have h:=hc 0 h0
    unfold World.cell? Addr.add at h
    simp only [if_true] at h
    split at h
    . split at h
      . cases h
      . rename_i hn;simpa using hn
    . cases h
   subst hs
   refine .inr ⟨b,o,rfl,fun i hi=>?_⟩
   have hi':i<zs.length:=by simp at hi;omega
   have e1:(⟨b,o,none⟩:Addr).add i=⟨b,o+i,none⟩:=by unfold Addr.add;split<;>simp_all
   rw [<- e1,hc i hi']
   simp [hi']
theorem zAm {k:IntKind} {a b:Int} (h:a=b):Ending.returned (.int k a)=.returned (.int k b):=by rw [h]
theorem zBi {a b:Bool} (h:a=b):Ending.returned (.bool a)=.returned (.bool b):=by rw [h]
theorem bA0 (w:World) (o:Obj):Below w.heap.size w (w.alloc o):=(zMy _ _).alloc (zMs _) _
theorem cA1 {α:Type} {xs:List α} {i:Nat}:xs.toArray[i]?=xs[i]?:=zMC
theorem cA2 {α:Type} {a:α} {l:List α} {i:Nat}:(a::l)[i+1]?=l[i]?:=List.getElem?_cons_succ
theorem cA3 {α:Type} {a:α} {l:List α}:(a::l)[0]?=some a:=List.getElem?_cons_zero
theorem Zm {w w':World} (h:Below w.heap.size w w') {b:Nat} {o:Obj} (p:w.heap[b]?=some o):w'.heap[b]?=some o:=(h.block _ (zAb p)).trans p
theorem Zc {w w':World} (h:Below w.heap.size w w') {b j:Nat} (hl:b<w.heap.size) {x:Option Value} (e:w.cell? ⟨b,j,none⟩=x):w'.cell? ⟨b,j,none⟩=x:=(zMB (a:=⟨b,j,none⟩) (h.block b hl)).trans e
theorem Zf {w w':World} (h:Below w.heap.size w w') {b:Nat} (j:Nat) (hl:b<w.heap.size) {x:Bool} (e:w.frozen? ⟨b,j,none⟩=x):w'.frozen? ⟨b,j,none⟩=x:=(World.frozen?_of_block (a:=⟨b,j,none⟩) (h.block b hl)).trans e
end Go.Proofs.YtfmgdjgedhnmeaaGreat
