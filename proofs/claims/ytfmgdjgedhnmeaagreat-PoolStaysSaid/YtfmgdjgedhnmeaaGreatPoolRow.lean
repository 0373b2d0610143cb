/- A pool in memory: tenants and their sets in rows; a pool that came in, opened. -/
import Derived.Test.YtfmgdjgedhnmeaaGreatOpenX
namespace Go.Proofs.YtfmgdjgedhnmeaaGreat
open Go.RowKit Go.ChangeShapes Go.WideShapes Go.Deep Go.Joins
set_option linter.unusedVariables false
set_option linter.unusedSimpArgs false
structure TenV where
 key:Int
 quota:Int
 sets:List SetV
structure PoolV where
 s:List Blk
 tens:List TenV
structure Stv where
 nm:ByteArray
 fo:Option Addr
 fn:Nat
 fc:Nat
 so:Option Addr
 sn:Nat
 sc:Nat
def stvK:Kind Stv where
 cells x:=[.string x.nm,.slice x.fo x.fn x.fc,.slice x.so x.sn x.sc]
 k:=3
 zero:=⟨⟨#[]⟩,none,0,0,none,0,0⟩
 elem:=47
 pos:=by omega
 len _:=rfl
 one x v hv:=by
  simp only [zNP,zNG,or_false] at hv
  rcases hv with rfl | rfl | rfl<;>rfl
structure StvAt (w:World) (b o:Nat) (x:Stv):Prop where
 nm:w.cell? ⟨b,o,none⟩=some (.string x.nm)
 fl:w.cell? ⟨b,o+1,none⟩=some (.slice x.fo x.fn x.fc)
 sl:w.cell? ⟨b,o+2,none⟩=some (.slice x.so x.sn x.sc)
theorem StvAt.lt {w:World} {b o:Nat} {x:Stv} (h:StvAt w b o x):b<w.heap.size:=zMx _ _ h.nm
theorem zCW {l:List Stv} {w:World} {b o:Nat} (h:∀ j v,(stvK.all l)[j]?=some v->w.cell? ⟨b,o+j,none⟩=some v) (i:Nat) (hi:i<l.length):StvAt w b (o+i*3) l[i]:=by
 have key:∀ j,j<3->∀ v,(stvK.cells l[i])[j]?=some v->w.cell? ⟨b,o+i*3+j,none⟩=some v:=by
  intro j hj v hv
  rw [Nat.add_assoc]
  exact h _ v ((stvK.all_at l i hi j hj).trans hv)
 exact ⟨key 0 (by omega) _ rfl,key 1 (by omega) _ rfl,key 2 (by omega) _ rfl⟩
theorem StvRow.at {w:World} {ao:Option Addr} {l:List Stv} (h:stvK.Row w ao l) (i:Nat) (hi:i<l.length):∃ b o,ao=some ⟨b,o,none⟩/\∀ i (h:i<l.length),StvAt w b (o+i*3) l[i]:=by
 obtain ⟨b,o,h1,_,h2⟩:=Kind.Row.at h (by omega)
 exact ⟨b,o,h1,fun i hi=>zCW h2 i hi⟩
def Stv.Is (w:World) (v:Stv) (x:SetV):Prop:=v.nm=x.nm/\SetIn w v.fo v.fn v.fc v.so v.sn v.sc x
theorem Stv.Is.mono {w w':World} {v:Stv} {x:SetV} (h:v.Is w x) (hb:Below w.heap.size w w'):v.Is w' x:=⟨h.1,h.2.mono hb⟩
def zEs (w:World) (ao:Option Addr) (l:List SetV):Prop:=∃ vs:List Stv,vs.length=l.length/\stvK.Row w ao vs/\∀ i (h:i<vs.length) (h':i<l.length),vs[i].Is w l[i]
theorem zEs.mono {w w':World} {ao:Option Addr} {l:List SetV} (h:zEs w ao l) (hb:Below w.heap.size w w'):zEs w' ao l:=by
 obtain ⟨vs,h1,h2,h3⟩:=h
 exact ⟨vs,h1,h2.mono hb,fun i a b=>(h3 i a b).mono hb⟩
structure Tnv where
 key:Int
 quota:Int
 ao:Option Addr
 n:Nat
 cap:Nat
def tnvK:Kind Tnv where
 cells x:=[.int .i64 x.key,.int .i64 x.quota,.slice x.ao x.n x.cap]
 k:=3
 zero:=⟨0,0,none,0,0⟩
 elem:=42
 pos:=by omega
 len _:=rfl
 one x v hv:=by
  simp only [zNP,zNG,or_false] at hv
  rcases hv with rfl | rfl | rfl<;>rfl
structure TnvAt (w:World) (b o:Nat) (x:Tnv):Prop where
 key:w.cell? ⟨b,o,none⟩=some (.int .i64 x.key)
 quota:w.cell? ⟨b,o+1,none⟩=some (.int .i64 x.quota)
 sl:w.cell? ⟨b,o+2,none⟩=some (.slice x.ao x.n x.cap)
theorem TnvAt.lt {w:World} {b o:Nat} {x:Tnv} (h:TnvAt w b o x):b<w.heap.size:=zMx _ _ h.key
theorem TnvAt.mono {w w':World} {b o:Nat} {x:Tnv} (h:TnvAt w b o x) (hb:Below w.heap.size w w'):TnvAt w' b o x:=by
 have hc:=(bcell hb).1 b
 have hl:=h.lt
 exact ⟨(hc _ hl).trans h.key,(hc _ hl).trans h.quota,(hc _ hl).trans h.sl⟩
theorem zHe {l:List Tnv} {w:World} {b o:Nat} (h:∀ j v,(tnvK.all l)[j]?=some v->w.cell? ⟨b,o+j,none⟩=some v) (i:Nat) (hi:i<l.length):TnvAt w b (o+i*3) l[i]:=by
 have key:∀ j,j<3->∀ v,(tnvK.cells l[i])[j]?=some v->w.cell? ⟨b,o+i*3+j,none⟩=some v:=by
  intro j hj v hv
  rw [Nat.add_assoc]
  exact h _ v ((tnvK.all_at l i hi j hj).trans hv)
 exact ⟨key 0 (by omega) _ rfl,key 1 (by omega) _ rfl,key 2 (by omega) _ rfl⟩
theorem TnvRow.at {w:World} {ao:Option Addr} {l:List Tnv} (h:tnvK.Row w ao l) (i:Nat) (hi:i<l.length):∃ b o,ao=some ⟨b,o,none⟩/\∀ i (h:i<l.length),TnvAt w b (o+i*3) l[i]:=by
 obtain ⟨b,o,h1,_,h2⟩:=Kind.Row.at h (by omega)
 exact ⟨b,o,h1,fun i hi=>zHe h2 i hi⟩
structure TenIn (w:World) (ao:Option Addr) (n cap:Nat) (t:TenV):Prop where
 len:t.sets.length=n
 row:zEs w ao t.sets
 cap:Capd ao n cap
theorem TenIn.mono {w w':World} {ao:Option Addr} {n cap:Nat} {t:TenV} (h:TenIn w ao n cap t) (hb:Below w.heap.size w w'):TenIn w' ao n cap t:=⟨h.len,h.row.mono hb,h.cap⟩
def Tnv.Is (w:World) (v:Tnv) (t:TenV):Prop:=v.key=t.key/\v.quota=t.quota/\TenIn w v.ao v.n v.cap t
theorem Tnv.Is.mono {w w':World} {v:Tnv} {t:TenV} (h:v.Is w t) (hb:Below w.heap.size w w'):v.Is w' t:=⟨h.1,h.2.1,h.2.2.mono hb⟩
def zDy (w:World) (ao:Option Addr) (l:List TenV):Prop:=∃ vs:List Tnv,vs.length=l.length/\tnvK.Row w ao vs/\∀ i (h:i<vs.length) (h':i<l.length),vs[i].Is w l[i]
theorem zDy.mono {w w':World} {ao:Option Addr} {l:List TenV} (h:zDy w ao l) (hb:Below w.heap.size w w'):zDy w' ao l:=by
 obtain ⟨vs,h1,h2,h3⟩:=h
 exact ⟨vs,h1,h2.mono hb,fun i a b=>(h3 i a b).mono hb⟩
theorem zDy.at {w:World} {ao:Option Addr} {l:List TenV} (h:zDy w ao l) (k:Nat) (hk:k<l.length):∃ b o qo qn qc,ao=some ⟨b,o,none⟩/\TnvAt w b (o+k*3) ⟨l[k].key,l[k].quota,qo,qn,qc⟩/\TenIn w qo qn qc l[k]:=by
 obtain ⟨vs,h1,h2,h3⟩:=h
 have hkv:k<vs.length:=by omega
 obtain ⟨b,o,rfl,h4⟩:=TnvRow.at h2 k hkv
 obtain ⟨e1,e2,e3⟩:=h3 k hkv hk
 have h5:=h4 k hkv
 refine ⟨b,o,vs[k].ao,vs[k].n,vs[k].cap,rfl,?_,e3⟩
 rw [<- e1,<- e2]
 exact h5
theorem zEs.at {w:World} {ao:Option Addr} {l:List SetV} (h:zEs w ao l) (k:Nat) (hk:k<l.length):∃ b o,ao=some ⟨b,o,none⟩/\∀ k (hk:k<l.length),∃ fo fn fc so sn sc,StvAt w b (o+k*3) ⟨l[k].nm,fo,fn,fc,so,sn,sc⟩/\SetIn w fo fn fc so sn sc l[k]:=by
 obtain ⟨vs,h1,h2,h3⟩:=h
 have hkv:k<vs.length:=by omega
 obtain ⟨b,o,rfl,h4⟩:=StvRow.at h2 k hkv
 refine ⟨b,o,rfl,fun k hk=>?_⟩
 have hkv:k<vs.length:=by omega
 obtain ⟨e1,e2⟩:=h3 k hkv hk
 have h5:=h4 k hkv
 refine ⟨vs[k].fo,vs[k].fn,vs[k].fc,vs[k].so,vs[k].sn,vs[k].sc,?_,e2⟩
 rw [<- e1]
 exact h5
structure zAG (w:World) (so:Option Addr) (sn sc:Nat) (ao:Option Addr) (n cap:Nat) (p:PoolV):Prop where
 slen:p.s.length=sn
 srow:StoRow w so p.s
 scap:Capd so sn sc
 len:p.tens.length=n
 row:zDy w ao p.tens
 cap:Capd ao n cap
theorem zAG.mono {w w':World} {so:Option Addr} {sn sc:Nat} {ao:Option Addr} {n cap:Nat} {p:PoolV} (h:zAG w so sn sc ao n cap p) (hb:Below w.heap.size w w'):zAG w' so sn sc ao n cap p:=
 ⟨h.slen,h.srow.mono hb,h.scap,h.len,h.row.mono hb,h.cap⟩
structure WfT (t:TenV):Prop where
 key:I64 t.key
 quota:I64 t.quota
 len:t.sets.length<=2199023255552
 sets:∀ x∈t.sets,WfX x/\FitX x
structure WfP (p:PoolV):Prop where
 sto:WfS p.s
 slen:p.s.length<=2199023255552
 len:p.tens.length<=4398046511104
 tens:∀ t∈p.tens,WfT t
section
variable {H:Type} {enc:TypeId×Value->H} {w:World} {base:Nat} {spare:Nat->Bool} {held:Bool}
set_option maxRecDepth 100000 in
theorem zJr {α β:Type} [Inhabited α] [Inhabited β] (K:Kind α) (R:α->β->Prop) {t:TypeId} (ht:Tryz.prog.underlying t=some (.slice K.elem)) (hcell:Tryz.prog.cellsOf K.elem=K.k) {B:Nat} (hby:Tryz.prog.bytesOf K.elem=B)
 (hel:∀ {n b o:Nat} {cs:List Value} {y:DataW H×List MemPlace},DataW.trod enc Tryz.prog w base spare held n K.elem cs=some y->cs.length=K.k->(∀ j,j<K.k->w.cell? ⟨b,o+j,none⟩=cs[j]?)->(∀ n∈y.1.weights Tryz.prog K.elem,n<=reachBytes)->
  ∃ (v:α) (x:β),(∀ j,j<K.k->w.cell? ⟨b,o+j,none⟩=(K.cells v)[j]?)/\R v x)
 {m:Nat} {c0:Value} {y0:DataW H×List MemPlace} (h0:DataW.trod enc Tryz.prog w base spare held m t [c0]=some y0) (hb0:∀ n∈y0.1.weights Tryz.prog t,n<=reachBytes) :
 ∃ ao n cap,∃ vs:List α,∃ l:List β,c0=.slice ao n cap/\vs.length=n/\l.length=n/\K.Row w ao vs/\(∀ i (h:i<vs.length) (h':i<l.length),R vs[i] l[i])/\Capd ao n cap/\n*B<=reachBytes:=by
 rcases open_slice ht h0 with ⟨hcs,_⟩ | ⟨a,len,cap,mm,q,D,Pl,hcs,_,hl,hm,hmm,hx0,hi⟩
 . simp at hcs
   subst hcs
   exact ⟨none,0,0,[],[],rfl,rfl,rfl,.inl rfl,(fun i h=>absurd h (by simp)),⟨zMs _,fun _=>rfl⟩,by rw [zOp];exact zMO _⟩
 . simp at hcs
   subst hcs
   have hlm:len<=mm:=by rw [hmm];split<;>omega
   rw [hcell] at hi
   rw [hx0] at hb0
   have hbd:∀ i,i<len->∀ n∈(D i).weights Tryz.prog K.elem,n<=reachBytes:=fun i hi n hn=>hb0 n (by
    simp only [DataW.weights,ht,zNP,zNo]
    exact .inr (.inl (zCA (List.mem_map.2 ⟨i,List.mem_range.2 hi,rfl⟩) hn)))
   have hlen:len*B<=reachBytes:=by
    have h1:=hb0 ((((List.range len).map D).length+((List.range (mm - len)).map fun j=>D (len+j)).length)*Tryz.prog.bytesOf K.elem) (by simp [DataW.weights,ht])
    rw [hby] at h1
    simp only [zMA,List.length_range] at h1
    exact zMN (zNr _ (by omega)) h1
   rcases zMJ len with hz | hz
   . subst hz
     exact ⟨some a,0,cap,[],[],rfl,rfl,rfl,.inl rfl,(fun i h=>absurd h (by simp)),⟨zMO _,fun h=>by cases h⟩,hlen⟩
   have hK:=K.pos
   have hpl:∃ b o,a=⟨b,o,none⟩:=by
    obtain ⟨cs',hc,_⟩:=hi 0 (by omega)
    obtain ⟨_,hcl,hat⟩:=zNI hc
    have h00:=hat 0 (by omega)
    rw [zMt (by omega),zOp] at h00
    have e:(a.add 0).add 0=a.add 0:=by unfold Addr.add;simp
    rw [e] at h00
    exact zCj h00
   obtain ⟨b,o,rfl⟩:=hpl
   have hex:∀ i,∃ z:α×β,i<len->((∀ j,j<K.k->w.cell? ⟨b,o+i*K.k+j,none⟩=(K.cells z.1)[j]?)/\R z.1 z.2):=by
    intro i
    by_cases hlt:i<len
    . obtain ⟨cs',hc,ht⟩:=hi i (by omega)
      obtain ⟨_,hcl,hat⟩:=zNI hc
      obtain ⟨v,x,hxx⟩:=hel (b:=b) (o:=o+i*K.k) ht hcl (fun j hj=>by
       have:=hat j hj
       rw [zBf,zBf] at this
       exact this) (hbd i hlt)
      exact ⟨(v,x),fun _=>hxx⟩
    . exact ⟨(default,default),fun h=>absurd h hlt⟩
   have hf:∀ i,i<len->_:=fun i=>zN5 (hex i)
   refine ⟨some ⟨b,o,none⟩,len,cap,(List.range len).map fun i=>(Classical.choose (hex i)).1,(List.range len).map fun i=>(Classical.choose (hex i)).2,rfl,by simp,by simp,zGz K fun i hi j hj=>?_,fun i h1 h2=>?_,⟨hl,fun h=>by cases h⟩,hlen⟩
   . have hi':i<len:=by simpa using hi
     simpa using (hf i hi').1 j hj
   . have hi':i<len:=by simpa using h1
     simpa using (hf i hi').2
instance:Inhabited Stv:=⟨stvK.zero⟩
instance:Inhabited SetV:=⟨⟨⟨#[]⟩,[],[]⟩⟩
instance:Inhabited Tnv:=⟨tnvK.zero⟩
instance:Inhabited TenV:=⟨⟨0,0,[]⟩⟩
set_option maxRecDepth 100000 in
theorem zLC {m:Nat} {c0:Value} {y0:DataW H×List MemPlace} (h0:DataW.trod enc Tryz.prog w base spare held m 40 [c0]=some y0) (hb0:∀ n∈y0.1.weights Tryz.prog 40,n<=reachBytes) :
 ∃ ao n cap l,c0=.slice ao n cap/\l.length=n/\zEs w ao l/\(∀ x∈l,WfX x/\FitX x)/\Capd ao n cap/\n<=2199023255552:=by
 obtain ⟨ao,n,cap,vs,l,he,h1,h2,h3,h4,h5,h6⟩:=zJr stvK (fun v x=>v.Is w x/\WfX x/\FitX x) Tryz.underlying40 (by kernel_rfl) (B:=64) (by kernel_rfl) (fun {n b o cs y} h hcl hc hw=>by
  obtain ⟨y0,y1,y2,m,hx,_,h0,h1,h2⟩:=trod_struct3 Tryz.underlying47 h
  match cs,hcl with
  | [v0,v1,v2],_=>
   replace h0:DataW.trod enc Tryz.prog w base spare held m 9 [v0]=some y0:=h0
   replace h1:DataW.trod enc Tryz.prog w base spare held m 44 [v1]=some y1:=h1
   replace h2:DataW.trod enc Tryz.prog w base spare held m 45 [v2]=some y2:=h2
   obtain ⟨q,e0,_,_⟩:=DataW.trod_string Tryz.underlying9 h0
   simp at e0
   subst e0
   rw [hx] at hw
   obtain ⟨fo,fn,fc,l,rfl,hfn,hfr,hfw,hfc,hfl⟩:=zHu h1 (fun n hn=>hw n (by
    show n∈DataW.weights _ 47 _
    simp [DataW.weights,DataW.weightsEach,Tryz.underlying47,hn]))
   obtain ⟨so,sn,sc,ss,rfl,hsn,hsr,hsw,hsc,hsl⟩:=zLw h2 (fun n hn=>hw n (by
    show n∈DataW.weights _ 47 _
    simp [DataW.weights,DataW.weightsEach,Tryz.underlying47,hn]))
   exact ⟨⟨q,fo,fn,fc,so,sn,sc⟩,⟨q,l,ss⟩,hc,⟨rfl,⟨hfn,hsn,hfr,hsr,hfc,hsc⟩⟩,⟨hfw,fun y hy=>(hsw y hy).1⟩,by simp only;omega,by simp only;omega,fun y hy=>by have:=(hsw y hy).2;omega⟩) h0 hb0
 have hR:reachBytes=140737488351232:=rfl
 exact ⟨ao,n,cap,l,he,h2,⟨vs,by omega,h3,fun i a b=>(h4 i a b).1⟩,fun x hx=>by
  obtain ⟨i,hi,rfl⟩:=List.mem_iff_getElem.1 hx
  exact (h4 i (by omega) hi).2,h5,by omega⟩
set_option maxRecDepth 100000 in
theorem zMf {m:Nat} {c0:Value} {y0:DataW H×List MemPlace} (h0:DataW.trod enc Tryz.prog w base spare held m 25 [c0]=some y0) (hb0:∀ n∈y0.1.weights Tryz.prog 25,n<=reachBytes) :
 ∃ ao n cap l,c0=.slice ao n cap/\l.length=n/\zDy w ao l/\(∀ x∈l,WfT x)/\Capd ao n cap/\n<=4398046511104:=by
 obtain ⟨ao,n,cap,vs,l,he,h1,h2,h3,h4,h5,h6⟩:=zJr tnvK (fun v x=>v.Is w x/\WfT x) Tryz.underlying25 (by kernel_rfl) (B:=40) (by kernel_rfl) (fun {n b o cs y} h hcl hc hw=>by
  obtain ⟨y0,y1,y2,m,hx,_,h0,h1,h2⟩:=trod_struct3 Tryz.underlying42 h
  match cs,hcl with
  | [v0,v1,v2],_=>
   replace h0:DataW.trod enc Tryz.prog w base spare held m 3 [v0]=some y0:=h0
   replace h1:DataW.trod enc Tryz.prog w base spare held m 3 [v1]=some y1:=h1
   replace h2:DataW.trod enc Tryz.prog w base spare held m 40 [v2]=some y2:=h2
   obtain ⟨r,e0,_,w0⟩:=DataW.trod_int Tryz.underlying3 h0
   obtain ⟨s,e1,_,w1⟩:=DataW.trod_int Tryz.underlying3 h1
   simp at e0 e1
   subst e0 e1
   rw [hx] at hw
   obtain ⟨so,sn,sc,ss,rfl,hsn,hsr,hsw,hsc,hsl⟩:=zLC h2 (fun n hn=>hw n (by
    show n∈DataW.weights _ 42 _
    simp [DataW.weights,DataW.weightsEach,Tryz.underlying42,hn]))
   exact ⟨⟨r,s,so,sn,sc⟩,⟨r,s,ss⟩,hc,⟨rfl,rfl,⟨hsn,hsr,hsc⟩⟩,⟨zDC w0,zDC w1,by simp only;omega,hsw⟩⟩) h0 hb0
 have hR:reachBytes=140737488351232:=rfl
 exact ⟨ao,n,cap,l,he,h2,⟨vs,by omega,h3,fun i a b=>(h4 i a b).1⟩,fun x hx=>by
  obtain ⟨i,hi,rfl⟩:=List.mem_iff_getElem.1 hx
  exact (h4 i (by omega) hi).2,h5,by omega⟩
set_option maxRecDepth 100000 in
theorem open_sto {fuel:Nat} {c0:Value} {x:DataW H×List MemPlace} (hf:DataW.trod enc Tryz.prog w base spare held fuel 24 [c0]=some x) (hb:∀ n∈x.1.weights Tryz.prog 24,n<=reachBytes) :
 ∃ ao n cap s,c0=.slice ao n cap/\s.length=n/\StoRow w ao s/\WfS s/\Capd ao n cap/\n<=2199023255552:=by
 obtain ⟨y0,m,hx,_,h0⟩:=trod_struct1 Tryz.underlying24 hf
 replace h0:DataW.trod enc Tryz.prog w base spare held m 22 [c0]=some y0:=h0
 rw [hx] at hb
 have hb0:∀ n∈y0.1.weights Tryz.prog 22,n<=reachBytes:=fun n hn=>hb n (by simp [DataW.weights,DataW.weightsEach,Tryz.underlying24,hn])
 rcases open_slice Tryz.underlying22 h0 with ⟨hcs,_⟩ | ⟨a,len,cap,mm,q,D,Pl,hcs,_,hl,hm,hmm,hx0,hi⟩
 . simp at hcs
   subst hcs
   exact ⟨none,0,0,[],rfl,rfl,.inl rfl,(by intro x hx;cases hx),⟨zMs _,fun _=>rfl⟩,by omega⟩
 . simp at hcs
   subst hcs
   have hlm:len<=mm:=by rw [hmm];split<;>omega
   have hcell:Tryz.prog.cellsOf 99=4:=by kernel_rfl
   rw [hcell] at hi
   rw [hx0] at hb0
   have hbd:∀ i,i<len->∀ n∈(D i).weights Tryz.prog 99,n<=reachBytes:=fun i hi n hn=>hb0 n (by
    simp only [DataW.weights,Tryz.underlying22,zNP,zNo]
    exact .inr (.inl (zCA (List.mem_map.2 ⟨i,List.mem_range.2 hi,rfl⟩) hn)))
   have hlen:len<=2199023255552:=by
    have h1:=hb0 ((((List.range len).map D).length+((List.range (mm - len)).map fun j=>D (len+j)).length)*Tryz.prog.bytesOf 99) (by simp [DataW.weights,Tryz.underlying22])
    have e64:Tryz.prog.bytesOf 99=64:=by kernel_rfl
    rw [e64] at h1
    simp at h1
    have hR:reachBytes=140737488351232:=rfl
    omega
   rcases zMJ len with hz | hz
   . subst hz
     exact ⟨some a,0,cap,[],rfl,rfl,.inl rfl,(by intro x hx;cases hx),⟨zMO _,fun h=>by cases h⟩,by omega⟩
   have hpl:∃ b o,a=⟨b,o,none⟩:=by
    obtain ⟨cs',hc,_⟩:=hi 0 (by omega)
    obtain ⟨_,hcl,hat⟩:=zNI hc
    have h00:=hat 0 (by omega)
    rw [zMt (by omega),zOp] at h00
    have e:(a.add 0).add 0=a.add 0:=by unfold Addr.add;simp
    rw [e] at h00
    exact zCj h00
   obtain ⟨b,o,rfl⟩:=hpl
   have hex:∀ i,∃ x:Blk,i<len->(BlkAt w b (o+i*4) x/\WfB x):=by
    intro i
    by_cases hlt:i<len
    . obtain ⟨cs',hc,ht⟩:=hi i (by omega)
      obtain ⟨_,hcl,hat⟩:=zNI hc
      obtain ⟨x,hxx⟩:=zJz (b:=b) (o:=o+i*4) ht hcl (fun j hj=>by
       have:=hat j hj
       rw [zBf,zBf] at this
       exact this) (hbd i hlt)
      exact ⟨x,fun _=>hxx⟩
    . exact ⟨noBlk,fun h=>absurd h hlt⟩
   have hf:∀ i,i<len->_:=fun i=>zN5 (hex i)
   refine ⟨some ⟨b,o,none⟩,len,cap,(List.range len).map fun i=>Classical.choose (hex i),rfl,by simp,.inr ⟨b,o,rfl,fun i hi=>?_⟩,?_,⟨hl,fun h=>by cases h⟩,by omega⟩
   . have hi':i<len:=by simpa using hi
     simpa using (hf i hi').1
   . intro x hx
     obtain ⟨i,hi,rfl⟩:=List.mem_map.1 hx
     have hi':=List.mem_range.1 hi
     exact (hf i hi').2
set_option maxRecDepth 100000 in
theorem zKH {r:Reach} {b0:Nat} {v:Value} {d:DataW H} {q:List MemPlace} (hv:Value.okWide Tryz.prog w r b0 27 v) (h:DataW.Trod enc Tryz.prog w base spare held 27 v d q) (hw:∀ n∈d.weights Tryz.prog 27,n<=reachBytes) :
 ∃ so sn sc ao n cap p,v=.agg #[.slice so sn sc,.slice ao n cap]/\zAG w so sn sc ao n cap p/\WfP p:=by
 obtain ⟨cs,rfl,hsz⟩:=okWide_struct Tryz.underlying27 hv
 obtain ⟨cl⟩:=cs
 have hsz1:cl.length=2:=hsz.trans (by kernel_rfl)
 match cl,hsz1 with
 | [v0,v1],_=>
  obtain ⟨fuel,hf⟩:=h
  obtain ⟨y0,y1,m,hx,_,h0,h1⟩:=trod_struct2 Tryz.underlying27 hf
  replace h0:DataW.trod enc Tryz.prog w base spare held m 24 [v0]=some y0:=h0
  replace h1:DataW.trod enc Tryz.prog w base spare held m 25 [v1]=some y1:=h1
  have hd:d=.agg [y0.1,y1.1]:=by have:=congrArg Prod.fst hx;simpa using this
  subst hd
  obtain ⟨so,sn,sc,s,e0,hsn,hsr,hsw,hsc,hsl⟩:=open_sto h0 (fun n hn=>hw n (by simp [DataW.weights,DataW.weightsEach,Tryz.underlying27,hn]))
  obtain ⟨ao,n,cap,l,rfl,hn,hr,hwf,hcp,hle⟩:=zMf h1 (fun n hn=>hw n (by simp [DataW.weights,DataW.weightsEach,Tryz.underlying27,hn]))
  subst e0
  exact ⟨so,sn,sc,ao,n,cap,⟨s,l⟩,rfl,⟨hsn,hsr,hsc,hn,hr,hcp⟩,⟨hsw,by simp only;omega,by simp only;omega,hwf⟩⟩
end
end Go.Proofs.YtfmgdjgedhnmeaaGreat
