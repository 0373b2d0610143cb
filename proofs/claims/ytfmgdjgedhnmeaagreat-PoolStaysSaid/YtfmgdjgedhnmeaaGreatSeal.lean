/- The package of sealed bytes: what its functions compute. · the reference's seal: what it computes · seal.Seal: the room of what it gives. · rookerylaw.sealed, SealSays: the walks · rookerylaw.SealParts, SealBack: the walks -/
import Derived.Test.YtfmgdjgedhnmeaaGreatSto
namespace Go.Proofs.YtfmgdjgedhnmeaaGreat
open Go.RowKit
set_option linter.unusedVariables false
set_option linter.unusedSimpArgs false
def keyE (key at_:Int):Int:=if key<0\/1000<key\/at_<0\/255<at_ then 3 else 0
theorem zCv (key at_:Int) (w:World) :
 Calls Tryz.prog 41 #[.int .i64 key,.int .i64 at_] w fun e w'=>e=.returned (.int .i64 (keyE key at_))/\w=w':=by
 rcases (show key<0\/(0<=key/\1000<key)\/(0<=key/\key<=1000/\at_<0)\/(0<=key/\key<=1000/\0<=at_/\256<=at_)\/(0<=key/\key<=1000/\0<=at_/\at_<256) from by omega) with h1 | ⟨h1,h2⟩ | ⟨h1,h2,h3⟩ | ⟨h1,h2,h3,h4⟩ | ⟨h1,h2,h3,h4⟩
 all_goals
  go_enter Tryz.func41,Tryz.ntmps41
  go_wp2
  go_ret
  exact ⟨zAm (by unfold keyE;split<;>omega),rfl⟩
def nxt (n:Int):Int:=(n*75+74)%65537
def byt (n:Int):Int:=n / 8%256
def ste (n:Int):Nat->Int
 | 0=>n
 | k+1=>nxt (ste n k)
def st0 (key at_:Int):Int:=key*104729+at_*7919+12345
theorem nxt_bd (n:Int):0<=nxt n/\nxt n<=65536:=by unfold nxt;omega
theorem byt_bd (n:Int):0<=byt n/\byt n<=255:=by unfold byt;omega
theorem ste_bd (n:Int) (h0:0<=n) (h1:n<=200000000) (k:Nat):0<=ste n k/\ste n k<=200000000:=by
 cases k with
 | zero=>exact ⟨h0,h1⟩
 | succ k=>have:=nxt_bd (ste n k);simp only [ste];omega
theorem zFE (n:Int) (B:Nat) (t:TypeId) (w:World) (h0:0<=n) (h1:n<=200000000) (hc:w.heap[B]?=some (.cells #[.int .i64 n] t (0,0))) :
 Calls Tryz.prog 109 #[.pointer (some ⟨B,0,none⟩)] w fun e w'=>e=.returned (.int .u8 (byt (nxt n)))/\w.setCell ⟨B,0,none⟩ (.int .i64 (nxt n))=w':=by
 have c1:=cell_of_one hc
 have f1:=free_of_one hc
 have c2:∀ v,(w.setCell ⟨B,0,none⟩ v).cell? ⟨B,0,none⟩=some v:=fun v=>zMQ _ _ _ c1
 clear hc
 go_enter Tryz.func109,Tryz.ntmps109
 go_wp2
 go_ret
 exact ⟨rfl,rfl⟩
theorem zGb (key at_:Int) (w:World) (h:keyE key at_=0) :
 Calls Tryz.prog 103 #[.int .i64 key,.int .i64 at_] w fun e w'=>e=.returned (.func (.func 109) #[] #[.pointer (some ⟨w.heap.size,0,none⟩)])/\w.alloc (.cells #[.int .i64 (st0 key at_)] 3)=w':=by
 have hb:0<=key/\key<=1000/\0<=at_/\at_<=255:=by
  unfold keyE at h
  split at h<;>omega
 clear h
 obtain ⟨h1,h2,h3,h4⟩:=hb
 go_enter Tryz.func103,Tryz.ntmps103
 go_wp2
 go_ret
 exact ⟨rfl,rfl⟩
def sealed (d key at_:Int) (xs:List Int):List Int:=(List.range xs.length).map fun i=>(xs.getD i 0+d*byt (ste (st0 key at_) (i+1)))%256
theorem zAu (d key at_:Int) (xs:List Int):(sealed d key at_ xs).length=xs.length:=by simp [sealed]
theorem zCY (d key at_:Int) (xs:List Int) (i:Nat) (h:i<xs.length) (h':i<(sealed d key at_ xs).length):(sealed d key at_ xs)[i]=(xs[i]+d*byt (ste (st0 key at_) (i+1)))%256:=by
 simp [sealed,h]
theorem zC2 (d key at_:Int) (xs:List Int):Byt (sealed d key at_ xs):=by
 intro x hx
 simp only [sealed,List.mem_map] at hx
 obtain ⟨i,_,rfl⟩:=hx
 omega
def zCL (d key at_:Int) (xs:List Int) (k:Nat):List Int:=(sealed d key at_ xs).take k++List.replicate (xs.length - k) 0
theorem zBv (d key at_:Int) (xs:List Int) (k:Nat) (h:k<=xs.length):(zCL d key at_ xs k).length=xs.length:=by
 simp [zCL,zAu];omega
theorem zFj (d key at_:Int) (xs:List Int):zCL d key at_ xs 0=List.replicate xs.length 0:=by simp [zCL]
theorem zF3 (d key at_:Int) (xs:List Int):zCL d key at_ xs xs.length=sealed d key at_ xs:=by
 simp [zCL,zMM (zOA (zAu d key at_ xs))]
theorem zFw (d key at_:Int) (xs:List Int) (k:Nat) (h:k<xs.length) :
 (zCL d key at_ xs k).set k ((xs[k]+d*byt (ste (st0 key at_) (k+1)))%256)=zCL d key at_ xs (k+1):=by
 have hl:=zAu d key at_ xs
 apply zNd
 . simp [zBv _ _ _ _ _ (zNQ h),zBv _ _ _ _ _ h]
 . intro i h1 h2
   rw [zMP]
   by_cases e:k=i
   . subst e
     simp only [if_true,zCL]
     rw [zMY (by simp [hl];omega),zNO,zCY _ _ _ _ _ h]
   . rw [if_neg e]
     simp only [zCL]
     rw [zBv _ _ _ _ _ h] at h2
     rcases zNp i k with hi | hi
     . rw [zMY (by simp [hl];omega),zMY (by simp [hl];omega)]
       simp
     . rw [zMX (by simp [hl];omega),zMX (by simp [hl];omega)]
       simp
set_option maxHeartbeats 400000 in
set_option maxRecDepth 100000 in
theorem zLa (key at_:Int) (ao:Option Addr) (cap:Nat) (xs:List Int) (w:World) (h:keyE key at_=0) (hl:xs.length<=256) (hx:Row .u8 w ao xs) (hby:Byt xs) :
 Calls Tryz.prog 91 #[.int .i64 key,.int .i64 at_,.slice ao xs.length cap] w fun e w'=>
  ∃ ao' cap',xs.length<=cap'/\e=.returned (.tuple #[.slice ao' xs.length cap',.int .i64 0])/\Row .u8 w' ao' (sealed (-1) key at_ xs)/\Below w.heap.size w w':=by
 have hk:0<=st0 key at_/\st0 key at_<=200000000:=by
  unfold keyE at h;unfold st0
  split at h<;>omega
 have hmk:=make_ints (P:=Tryz.prog) .u8 28 5 1 Tryz.underlying28 zDx xs.length (by omega) (by omega)
 have hbd:=ste_bd (st0 key at_) hk.1 hk.2
 generalize hn:st0 key at_=n0 at *
 have HN:=lH hn
 have hd:decide (256<(xs.length:Int))=false:=by simp;omega
 clear hn hk
 go_enter Tryz.func91,Tryz.ntmps91
 go_wp2_with (first
  | (go_at_call 41;refine (zCv _ _ _).mono ?_;rintro e w' ⟨rfl,rfl⟩)
  | (go_at_call 103;refine (zGb _ _ _ h).mono ?_;rintro e w' ⟨rfl,rfl⟩))
 go_loopw [30] (fun i wr=>∃ k:Nat,k<=xs.length/\i=.int .i64 k/\wr.heap[w.heap.size]?=some (.cells #[.int .i64 (ste n0 k)] 3 (0,0))/\
  wr.heap[w.heap.size+1]?=some (.cells (icells .u8 (zCL (-1) key at_ xs k)) 5 (0,0))/\Below w.heap.size w wr)
  (fun i _=>xs.length - (intOf i).toNat)
 case atStart=>
  refine ⟨0,zMO _,rfl,?_,?_,((zMy _ _).alloc (zMs _) _).alloc (by simp) _⟩
  . rw [heap_alloc2_old,HN.out];rfl
  . rw [heap_alloc2_new,zFj];rfl
 case round=>
  obtain ⟨k,hk,rfl,hB,hO,hbel⟩:=hrel
  by_cases hlt:k<xs.length
  . obtain ⟨b,o,rfl,hc⟩:=hx.at k hlt
    have hck:=hc k hlt
    have hbl:=zMx _ _ hck
    have hck':wr.cell? ⟨b,o+k,none⟩=some (.int .u8 xs[k]):=(hbel.cell (p:=⟨b,o+k,none⟩) hbl).trans hck
    have hnb:=hbd k
    have hsl:=zBv (-1) key at_ xs k hk
    obtain ⟨yk,hco⟩:=zJu hO k (by omega)
    have hfo:=zAc hO k
    have hyk:=hby.at k hlt
    have hbk:=byt_bd (nxt (ste n0 k))
    clear hc hck hx hsl hby hbd
    go_wp2_with (first
     | (go_at_call 109;refine (zFE _ _ _ _ hnb.1 hnb.2 hB).mono ?_;rintro e w' ⟨rfl,rfl⟩))
    go_roundw
    case rel=>
     refine ⟨k+1,by omega,by go_num,zAh (zAe hB _ _) (by simp),?_,(hbel.setCell (zMs _) _).setCell (by simp) _⟩
     have h2:=zAe (zAh (a:=⟨w.heap.size,0,none⟩) (v:=.int .i64 (nxt (ste n0 k))) hO (by simp)) k (.int .u8 ((xs[k] - byt (nxt (ste n0 k)))%256))
     rw [zDf] at h2
     have h3:=zFw (-1) key at_ xs k hlt
     rw [HN.out,ste,show xs[k] + -1*byt (nxt (ste n0 k))=xs[k] - byt (nxt (ste n0 k)) from by omega] at h3
     rw [h3] at h2
     exact h2
    case measure=>simp [intOf];omega
  . obtain rfl:k=xs.length:=by omega
    go_wp2
    go_ret2
    refine ⟨_,_,zMs _,rfl,?_,hbel⟩
    rw [zF3] at hO
    exact row_of_block hO
set_option maxHeartbeats 400000 in
set_option maxRecDepth 100000 in
theorem zLi (key at_:Int) (ao:Option Addr) (cap:Nat) (xs:List Int) (w:World) (h:keyE key at_=0) (hl:xs.length<=256) (hx:Row .u8 w ao xs) (hby:Byt xs) :
 Calls Tryz.prog 94 #[.int .i64 key,.int .i64 at_,.slice ao xs.length cap] w fun e w'=>
  ∃ ao' cap',Capd ao' xs.length cap'/\e=.returned (.tuple #[.slice ao' xs.length cap',.int .i64 0])/\Row .u8 w' ao' (sealed 1 key at_ xs)/\Below w.heap.size w w':=by
 have hk:0<=st0 key at_/\st0 key at_<=200000000:=by
  unfold keyE at h;unfold st0
  split at h<;>omega
 have hmk:=make_ints (P:=Tryz.prog) .u8 28 5 1 Tryz.underlying28 zDx xs.length (by omega) (by omega)
 have hbd:=ste_bd (st0 key at_) hk.1 hk.2
 generalize hn:st0 key at_=n0 at *
 have HN:=lH hn
 have hd:decide (256<(xs.length:Int))=false:=by simp;omega
 clear hn hk
 go_enter Tryz.func94,Tryz.ntmps94
 go_wp2_with (first
  | (go_at_call 41;refine (zCv _ _ _).mono ?_;rintro e w' ⟨rfl,rfl⟩)
  | (go_at_call 103;refine (zGb _ _ _ h).mono ?_;rintro e w' ⟨rfl,rfl⟩))
 go_loopw [30] (fun i wr=>∃ k:Nat,k<=xs.length/\i=.int .i64 k/\wr.heap[w.heap.size]?=some (.cells #[.int .i64 (ste n0 k)] 3 (0,0))/\
  wr.heap[w.heap.size+1]?=some (.cells (icells .u8 (zCL 1 key at_ xs k)) 5 (0,0))/\Below w.heap.size w wr)
  (fun i _=>xs.length - (intOf i).toNat)
 case atStart=>
  refine ⟨0,zMO _,rfl,?_,?_,((zMy _ _).alloc (zMs _) _).alloc (by simp) _⟩
  . rw [heap_alloc2_old,HN.out];rfl
  . rw [heap_alloc2_new,zFj];rfl
 case round=>
  obtain ⟨k,hk,rfl,hB,hO,hbel⟩:=hrel
  by_cases hlt:k<xs.length
  . obtain ⟨b,o,rfl,hc⟩:=hx.at k hlt
    have hck:=hc k hlt
    have hbl:=zMx _ _ hck
    have hck':wr.cell? ⟨b,o+k,none⟩=some (.int .u8 xs[k]):=(hbel.cell (p:=⟨b,o+k,none⟩) hbl).trans hck
    have hnb:=hbd k
    have hsl:=zBv 1 key at_ xs k hk
    obtain ⟨yk,hco⟩:=zJu hO k (by omega)
    have hfo:=zAc hO k
    have hyk:=hby.at k hlt
    have hbk:=byt_bd (nxt (ste n0 k))
    clear hc hck hx hsl hby hbd
    go_wp2_with (first
     | (go_at_call 109;refine (zFE _ _ _ _ hnb.1 hnb.2 hB).mono ?_;rintro e w' ⟨rfl,rfl⟩))
    go_roundw
    case rel=>
     refine ⟨k+1,by omega,by go_num,zAh (zAe hB _ _) (by simp),?_,(hbel.setCell (zMs _) _).setCell (by simp) _⟩
     have h2:=zAe (zAh (a:=⟨w.heap.size,0,none⟩) (v:=.int .i64 (nxt (ste n0 k))) hO (by simp)) k (.int .u8 ((xs[k]+byt (nxt (ste n0 k)))%256))
     rw [zDf] at h2
     have h3:=zFw 1 key at_ xs k hlt
     rw [HN.out,ste,Int.one_mul] at h3
     rw [h3] at h2
     exact h2
    case measure=>simp [intOf];omega
  . obtain rfl:k=xs.length:=by omega
    go_wp2
    go_ret2
    refine ⟨_,_,⟨zMs _,fun h=>by cases h⟩,rfl,?_,hbel⟩
    rw [zF3] at hO
    exact row_of_block hO
theorem zIe (key at_:Int) (ao:Option Addr) (n cap:Nat) (xs:List Int) (w:World) (hl:xs.length=n) (h:keyE key at_=0) (hn:n<=256) (hx:Row .u8 w ao xs) (hby:Byt xs) :
 Calls Tryz.prog 94 #[.int .i64 key,.int .i64 at_,.slice ao n cap] w fun e w'=>
  ∃ ao' cap',Capd ao' n cap'/\e=.returned (.tuple #[.slice ao' n cap',.int .i64 0])/\Row .u8 w' ao' (sealed 1 key at_ xs)/\Below w.heap.size w w':=by
 subst hl
 exact zLi key at_ ao cap xs w h hn hx hby
theorem zFN (key at_:Int) (xs:List Int) (h:Byt xs):sealed (-1) key at_ (sealed 1 key at_ xs)=xs:=by
 apply zNd
 . simp [zAu]
 . intro i h1 h2
   rw [zCY _ _ _ _ _ (by rw [zAu];exact h2),zCY _ _ _ _ _ h2]
   have:=h.at i h2
   omega
theorem zH8 (key at_:Int) (xs:List Int) (h:Byt xs):sealed 1 key at_ (sealed (-1) key at_ xs)=xs:=by
 apply zNd
 . simp [zAu]
 . intro i h1 h2
   rw [zCY _ _ _ _ _ (by rw [zAu];exact h2),zCY _ _ _ _ _ h2]
   have:=h.at i h2
   omega
end Go.Proofs.YtfmgdjgedhnmeaaGreat
