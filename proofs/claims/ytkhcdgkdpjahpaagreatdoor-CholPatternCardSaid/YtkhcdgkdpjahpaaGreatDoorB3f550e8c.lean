/-
  Parts of the proof: Pa1, Pl2, Pl3, Pl5, Th1, Pl6, Pl7, Pl8, Pl9, Pl10, Pl12, ThT, Pa2, Pa3, Pa4, Pa5, Pa6, Pa7, Pa8, Pa9, Pa10, Pa11, Pa12, Pa13, Pa14, Pa15, Pa16, Pa17, Pa19, Pa20, Pa21, Pa22, Pa23, Pa24, Pa25, Pa26, Pa27, Pa28: the framework (Fw), pure forms (Dn), plain laws (Pl, Th), calls of functions (Ok).
-/
import Derived.Test.YtkhcdgkdpjahpaaGreatDoorBbfcdbc33

set_option linter.all false
noncomputable section
namespace Go.lP
def bm (n:Nat):Int:=4294967296^n
def ak:List Int->Int
 |[]=>0
 |x::l=>x+4294967296*ak l
def bp (l:List Int):Prop:=∀x∈l,0<=x/\x<4294967296
theorem bp.nil:bp []:=fun _ h=>by cases h
theorem bp.cons {x:Int} {l:List Int}:bp (x::l)↔(0<=x/\x<4294967296)/\bp l:=by
 constructor
 ·exact fun h=>⟨h x (mB ..),fun y aB=>h y (f6 _ aB)⟩
 ·rintro⟨J,R⟩ y aB;rcases dV.1 aB with rfl|aB
  ·exact J
  ·exact R y aB
theorem bp.append {a b:List Int}:bp (a++b)↔bp a/\bp b:=by
 constructor
 ·exact fun h=>⟨fun y aB=>h y (rh _ aB),fun y aB=>h y (oH _ aB)⟩
 ·rintro⟨J,R⟩ y aB;rcases fe.1 aB with aB|aB
  ·exact J y aB
  ·exact R y aB
theorem bp.snoc {a:List Int} {x:Int} (h:bp a) (J:0<=x) (R:x<4294967296):bp (a++[x]):=
 bp.append.2 ⟨h,bp.cons.2 ⟨⟨J,R⟩,bp.nil⟩⟩
theorem bp.take {l:List Int} (h:bp l) (n:Nat):bp (l.take n):=fun x ab=>h x (List.mem_of_mem_take ab)
theorem bp.drop {l:List Int} (h:bp l) (n:Nat):bp (l.drop n):=fun x ab=>h x (List.mem_of_mem_drop ab)
theorem bp.rb (n:Nat):bp (List.replicate n (0:Int)):=fun x ab=>by obtain⟨_,rfl⟩:=List.mem_replicate.1 ab;exact⟨wz _,by decide⟩
theorem bp.set {l:List Int} (h:bp l) {n:Nat} {x:Int} (J:0<=x) (R:x<4294967296):bp (l.set n x):=fun y aB=>by
 rcases List.mem_or_eq_of_mem_set aB with aB|rfl
 ·exact h y aB
 ·exact⟨J,R⟩
theorem bp.get {l:List Int} (h:bp l) {n:Nat} (ag:n<l.length):0<=l[n]/\l[n]<4294967296:=h _ (dt ag)
theorem f3 (n:Nat):0<bm n:=uh (by decide)
theorem iW (n:Nat):bm (n+1)=4294967296*bm n:=by unfold bm;rw[Int.pow_succ,kK]
theorem DY (m n:Nat):bm (m+n)=bm m*bm n:=qf ..
theorem DZ:bm 0=1:=rfl
theorem sz (a b:List Int):ak (a++b)=ak a+bm a.length*ak b:=by
 induction a with
 |nil=>simp[ak,DZ]
 |cons x a aT=>
  simp only[mz,ak,kc,iW,aT];grind
theorem t7 (a:List Int) (x:Int):ak (a++[x])=ak a+bm a.length*x:=by rw[sz];simp[ak]
theorem e6 {l:List Int} (h:bp l):0<=ak l:=by
 induction l with
 |nil=>exact wz _
 |cons x l aT=>
  have h:=bp.cons.1 h;have:=aT h.2;simp only[ak];omega
theorem hS {l:List Int} (h:bp l):ak l<bm l.length:=by
 induction l with
 |nil=>decide
 |cons x l aT=>
  have h:=bp.cons.1 h;have:=aT h.2;simp only[ak,kc,iW];omega
theorem jE {l:List Int} {i:Nat} (h:i<l.length):ak (l.take (i+1))=ak (l.take i)+bm i*l[i]:=by rw[nR,ct h];show ak (l.take i++[l[i]])=_;rw[t7,fl,iY (by omega)]
theorem t8 (l:List Int) (i:Nat) (h:i<=l.length):ak l=ak (l.take i)+bm i*ak (l.drop i):=by
 conv=>lhs;rw[<-pf i l]
 rw[sz,fl,iY h]
theorem nI {l:List Int} {i:Nat} (h:i<l.length):ak (l.drop i)=l[i]+4294967296*ak (l.drop (i+1)):=by rw[List.drop_eq_getElem_cons h];rfl
theorem yq (n:Nat):ak (List.replicate n (0:Int))=0:=by
 induction n with
 |zero=>rfl
 |succ n aT=>simp only[List.replicate_succ,ak,aT];rfl
theorem sA {l:List Int} {i:Nat} (h:i<l.length) (x:Int):ak (l.set i x)=ak l+bm i*(x-l[i]):=by
 induction l generalizing i with
 |nil=>simp at h
 |cons y l aT=>
  cases i with
  |zero=>simp only[List.set_cons_zero,ak,DZ,List.getElem_cons_zero];grind
  |succ i=>
   simp only[List.set_cons_succ,ak,List.getElem_cons_succ,iW];rw[aT (by simpa using h)];grind
def zF:Nat->Nat->List Int
 |0,_=>[]
 |f+1,n=>if n=0 then[] else((n %4294967296:Nat):Int)::zF f (n/4294967296)
def dd (n:Nat):List Int:=zF (Nat.log2 n+1) n
def en (l:List Int):Prop:=∀x,l.getLast?=some x->x≠0
theorem aiH:∀{f n:Nat},n<2^f->bp (zF f n)/\ak (zF f n)=n/\en (zF f n):=by
 intro f
 induction f with
 |zero=>
  intro n h;obtain rfl:n=0:=(by simpa using h);exact⟨bp.nil,rfl,fun x h=>by cases h⟩
 |succ f aT=>
  intro n h;unfold zF;split
  ·rename_i e;subst e;exact⟨bp.nil,rfl,fun x h=>by cases h⟩
  rename_i ag;obtain⟨J,R,ae⟩:=aT (n:=n/4294967296) (by rw[mC] at h;omega);refine⟨bp.cons.2 ⟨⟨by omega,by omega⟩,J⟩,?_,?_⟩
  ·simp only[ak,R];omega
  ·intro x ab;cases ai:zF f (n/4294967296) with
   |nil=>
    rw[ai] at ab R;simp only[ak] at R;simp only[List.getLast?_singleton,cI] at ab;omega
   |cons y l=>
    rw[ai,List.getLast?_cons_cons] at ab;rw[ai] at ae;exact ae x ab
theorem OH (n:Nat):bp (dd n)/\ak (dd n)=n/\en (dd n):=aiH Nat.lt_log2_self
theorem lZ (n:Nat):bp (dd n):=(OH n).1
theorem mK (n:Nat):ak (dd n)=n:=(OH n).2.1
theorem qv (n:Nat):en (dd n):=(OH n).2.2
theorem en.tail {x:Int} {l:List Int} (h:en (x::l)):en l:=fun y aB=>by
 cases l with
 |nil=>cases aB
 |cons z l=>exact h y (by rw[List.getLast?_cons_cons];exact aB)
theorem en.zero {l:List Int} (ah:bp l) (af:en l) (h:ak l=0):l=[]:=by
 induction l with
 |nil=>rfl
 |cons x l aT=>
  obtain⟨⟨J,R⟩,ae⟩:=bp.cons.1 ah;have ag:=e6 ae;simp only[ak] at h;have ab:x=0:=(by omega);have:=aT ae af.tail (by omega);subst this;subst ab;exact absurd rfl (af 0 rfl)
theorem en.uniq:∀{a b:List Int},bp a->bp b->en a->en b->ak a=ak b->a=b
 |[],b,_,aa,_,tb,h=>(en.zero aa tb (by rw[<-h];rfl)).symm
 |a,[],aG,_,ta,_,h=>en.zero aG ta (by rw[h];rfl)
 |x::a,y::b,aG,aa,ta,tb,h=>by obtain⟨⟨J,R⟩,ae⟩:=bp.cons.1 aG;obtain⟨⟨aI,aX⟩,bI⟩:=bp.cons.1 aa;simp only[ak] at h;have xC:x=y:=(by omega);have:=en.uniq ae bI ta.tail tb.tail (by omega);rw[xC,this]
theorem aiK {l:List Int} {n:Nat} (J:bp l) (R:en l) (ae:ak l=n):l=dd n:=
 en.uniq J (lZ n) R (qv n) (by rw[ae,mK])
theorem en.eq {l:List Int} (J:bp l) (R:en l):l=dd (ak l).toNat:=
 aiK J R (by have:=e6 J;omega)
theorem en.low {l:List Int} (ah:bp l) (af:en l) (h:l≠[]):bm (l.length-1)<=ak l:=by have J:=List.dropLast_concat_getLast h;have R:=af (l.getLast h) (List.getLast?_eq_some_getLast h);have ae:=ah _ (List.getLast_mem h);rw[<-J,t7];have aI:=e6 (l:=l.dropLast) (fun x ab=>ah x (List.dropLast_subset _ ab));have aX:1<=l.getLast h:=(by omega);have bI:=nf aX (fu (f3 l.dropLast.length));simp only[qi,List.length_singleton,Ee];omega
theorem asj {m n:Nat} (h:m<n):bm m<bm n:=by obtain⟨k,rfl⟩:∃k,n=m+(k+1):=⟨n-m-1,by omega⟩;rw[DY,iW];have J:=f3 k;have R:=f3 m;have ae:1*bm m<(4294967296*bm k)*bm m:=D4 (by omega) R;grind
theorem sl {m n:Nat} (h:m<=n):bm m<=bm n:=by
 rcases ch m n with J|J
 ·exact fu (asj J)
 ·obtain rfl:m=n:=(by omega);exact wz _
theorem w8 {n k:Nat} (h:(n:Int)<bm k):(dd n).length<=k:=by
 by_cases aE:dd n=[]
 ·rw[aE];exact eL _
 have J:=en.low (lZ n) (qv n) aE;rw[mK] at J;rcases ch k (dd n).length with R|R
 ·have:=sl (m:=k) (n:=(dd n).length-1) (by omega);omega
 ·exact R
theorem VH (n:Nat):(n:Int)<bm (dd n).length:=by have:=hS (lZ n);rwa[mK] at this
theorem VI:dd 0=[]:=rfl
theorem OG {n:Nat}:dd n=[]↔n=0:=by
 constructor
 ·intro h;have:=mK n;rw[h] at this;simp only[ak] at this;omega
 ·rintro rfl;rfl
def iF (l:List Int):List Int:=dd (ak l).toNat
theorem abH {l:List Int} {n:Nat} (ah:bp l) (ag:n<=l.length) (aU:∀k,n<=k->(ac:k<l.length)->l[k]=0) (af:en (l.take n)):l.take n=iF l:=by have J:ak l=ak (l.take n):=(by have R:l.drop n=List.replicate (l.length-n) 0:=(by refine List.ext_getElem (by simp) fun k J R=>?_;rw[List.getElem_drop,List.getElem_replicate];exact aU _ (by omega) _);rw[t8 l n ag,R,yq];simp);rw[iF,J];exact en.eq (ah.take n) af
theorem abE (l:List Int):bp (iF l):=lZ _
theorem abF (l:List Int):en (iF l):=qv _
theorem abG {l:List Int} (h:bp l):ak (iF l)=ak l:=by have:=e6 h;rw[iF,mK];omega
theorem aj4 {α:Type} {a b:List α} (ah:a.length=b.length) (h:∀k,k<a.length->a[k]?=b[k]?):a=b:=by
 apply jj;intro k;rcases ch k a.length with J|J
 ·exact h k J
 ·rw[gy J,gy (by omega)]
theorem Nl (a b:List Int) (aG:a.length<4611686018427387904):EY (a,b,())=some (a==b,()):=by
 rw[<-U.eq_iff];unfold EY;simp only[U.c7,U.c8,U.au];refine⟨fun h=>?_,fun h=>?_⟩
 ·simp at h;have:a≠b:=fun e=>h (by rw[e]);simp[this]
 ·simp at h;have ah:a.length=b.length:=(by omega);refine U.for (i0:=0) a.length (fun i _=>∀k,k<i->a[k]?=b[k]?) rfl (by simp) (eL _) ?_ ?_
  ·intro i t _ hi cK;simp only[U.c7,U.c8,U.au,U.jL];refine⟨fun _=>⟨hi,by omega,fun cL=>?_,fun aE=>?_⟩,fun aF=>?_⟩
   ·simp at cL;have:a≠b:=fun e=>cL (by simp[e]);simp[this]
   ·refine⟨gR (by omega),fun k ac=>?_⟩;rcases ch k i with J|J
    ·exact cK k J
    ·obtain rfl:k=i:=(by omega);simp at aE;rw[ct hi,ct (by omega),aE]
   ·simp at aF;omega
  ·intro t cK;simp only[U.c7,U.c8,U.au];refine⟨fun aF=>by simp at aF,fun _=>?_⟩;simp[aj4 ah cK]
theorem q1 {α:Type} {a:List α} {i:Nat} (h:i<a.length):a.take i++[a[i]]=a.take (i+1):=by rw[nR,ct h];rfl
theorem RZ {l:List Int}:l.Pairwise (· < ·)↔∀k,(h:k+1<l.length)->l[k]<l[k+1]:=by
 constructor
 ·intro h k ac;exact(iX.1 h) k (k+1) (by omega) ac (by omega)
 ·intro h;rw[iX];have key:∀d i (hi:i<l.length) (al:i+d+1<l.length),l[i]<l[i+d+1]:=by
   intro d
   induction d with
   |zero=>intro i hi al;exact h i al
   |succ d aT=>
    intro i hi al;have J:=aT i hi (by omega);have R:=h (i+d+1) (by omega);exact Int.lt_trans J R
  intro i j hi al dz;obtain⟨d,rfl⟩:∃d,j=i+d+1:=⟨j-i-1,by omega⟩;exact key d i hi al
theorem aco (l:List Int) (ah:l.length<4611686018427387904):JU (l,())=some (decide (l.Pairwise (· < ·)),()):=by
 rw[<-U.eq_iff];unfold JU;simp only[U.c8];by_cases aU:l.length=0
 ·have:l=[]:=No.1 aU;subst this;refine U.loop (fun s=>s=(1,())) (fun _=>0) rfl ?_;rintro _ rfl;simp[U.au]
 ·refine U.for (i0:=1) l.length (fun i _=>∀k,(h:k+1<l.length)->k+1<i->l[k]<l[k+1]) rfl (fun k _ h=>by omega) (by omega) ?_ ?_
  ·rintro i _ J hi cK;simp only[U.c7,U.c8,U.au,U.jL];have e:IntKind.i64.wrap ((i:Int)-1)=((i-1:Nat):Int):=(by rw[wrap64 (by omega) (by omega)];omega);rw[e];refine⟨fun _=>⟨hi,?_⟩,fun aF=>?_⟩
   ·rw[U.jL];refine⟨by omega,?_⟩;refine⟨fun fb=>?_,fun cg=>⟨gR (by omega),fun k ac oW=>?_⟩⟩
    ·have:¬l.Pairwise (· < ·):=fun ay=>by
      have:=RZ.1 ay (i-1) (by omega);simp only[show i-1+1=i by omega] at this;simp at fb;omega
     simp[this]
    ·rcases ch (k+1) i with R|R
     ·exact cK k ac R
     ·obtain rfl:i=k+1:=(by omega);simp at cg;exact cg
   ·simp at aF;omega
  ·intro t cK;simp only[U.c7,U.c8,U.au];refine⟨fun aF=>by simp at aF,fun _=>?_⟩;have:l.Pairwise (· < ·):=RZ.2 (fun k ac=>cK k ac ac);simp[this]
def mark (m:List Bool) (l:List Int):List Bool:=l.foldl (fun m i=>m.set i.toNat true) m
section
def yC (l:List Int) (n:Int):Prop:=l.Pairwise (· < ·)/\∀x∈l,0<=x/\x<n
theorem U.count {σ ρ:Type} {f:σ->Option (σ⊕ρ)} {Q:ρ->Prop} (aA:σ->Int) (n:Nat) (I:Nat->σ->Prop) {i0:Nat} {ka:σ} (W6:aA ka=(i0:Int)) (aU:I i0 ka) (hi:i0<=n) (ve:∀i s,i0<=i->i<n->aA s=(i:Int)->I i s->U (f s) (fun|.inl s'=>aA s'=((i+1:Nat):Int)/\I (i+1) s'|.inr r=>Q r)) (u2:∀s,aA s=(n:Int)->I n s->U (f s) (fun|.inl _=>False|.inr r=>Q r)):U (lP.loop f ka) Q:=by
 refine U.loop (fun s=>∃i:Nat,i0<=i/\i<=n/\aA s=(i:Int)/\I i s) (fun s=>n-(aA s).toNat) ⟨i0,bS _,hi,W6,aU⟩ ?_;rintro s ⟨i,ah,hi,e,af⟩;rcases ch i n with h|h
 ·refine(ve i s ah h e af).mono ?_;rintro(s'|r) aB
  ·obtain⟨dy,R⟩:=aB;exact⟨⟨i+1,by omega,by omega,dy,R⟩,by rw[e,dy];simp;omega⟩
  ·exact aB
 ·obtain rfl:i=n:=(by omega);refine(u2 s e af).mono ?_;rintro(s'|r) aB
  ·exact aB.elim
  ·exact aB
open Classical in
theorem agv (l:List Int) (n:Int) (ah:l.length<4611686018427387904):Jq (l,n,())=some (decide (yC l n),()):=by
 rw[<-U.eq_iff];unfold Jq;simp only[U.c8];refine U.count (fun s=>s.2.1) l.length (fun i s=>s.1=(if i=0 then-1 else l.getD (i-1) 0)/\(l.take i).Pairwise (· < ·)/\∀x∈l.take i,0<=x/\x<n) (i0:=0) rfl ⟨rfl,by simp,by simp⟩ (eL _) ?_ ?_
 ·rintro i ⟨last,j,_⟩ _ hi e ⟨J,R,ae⟩;simp only at e J;subst e;simp only[U.c7,U.c8,U.au,U.jL];have CD:∀x∈l.take i,x<=last:=by
   intro x ab;rw[J];obtain⟨k,ac,rfl⟩:=jk.1 ab;simp only[fl] at ac;have z6:i≠0:=(by omega);rw[if_neg z6];simp only[D9,List.getD,ct (show i-1<l.length by omega),wH];rcases ch k (i-1) with h|h
   ·have:=(iX.1 R) k (i-1) (by simp;omega) (by simp;omega) h;simp only[D9] at this;omega
   ·have:k=i-1:=(by omega);subst this;exact wz _
  have tj:-1<=last:=by
   rw[J];by_cases aU:i=0
   ·rw[if_pos aU];exact wz _
   ·rw[if_neg aU];simp only[List.getD,ct (show i-1<l.length by omega),wH];have:=ae (l[i-1]) (jk.2 ⟨i-1,by simp;omega,by simp⟩);omega
  have pA:(l[i]<=last\/n<=l[i])->¬yC l n:=by
   rintro h ⟨g2,eF⟩;rcases h with h|h
   ·rw[J] at h;by_cases aU:i=0
    ·rw[if_pos aU] at h;have:=eF _ (dt hi);omega
    ·rw[if_neg aU] at h;simp only[List.getD,ct (show i-1<l.length by omega),wH] at h;have:=(iX.1 g2) (i-1) i (by omega) hi (by omega);omega
   ·have:=eF _ (dt hi);omega
  refine⟨fun _=>⟨hi,fun bT=>⟨fun bz=>?_,fun bz=>?_⟩,fun bT=>?_⟩,fun aF=>by simp at aF;omega⟩
  ·have:=pA (.inr (by simpa using bz));simp[this]
  ·simp at bT bz;refine⟨gR (by omega),?_,?_,?_⟩
   ·simp[List.getD,hi]
   ·rw[<-q1 hi,List.pairwise_append];refine⟨R,by simp,fun a aG b aa=>?_⟩;simp only[fv] at aa;subst aa;have:=CD a aG;omega
   ·rw[<-q1 hi];intro x ab;rcases fe.1 ab with ab|ab
    ·exact ae x ab
    ·simp only[fv] at ab;subst ab;omega
  ·have:=pA (.inl (by simpa using bT));simp[this]
 ·rintro⟨last,j,_⟩ e ⟨J,R,ae⟩;simp only at e;subst e;simp only[U.c7,U.au];refine⟨fun aF=>by simp at aF,fun _=>?_⟩;rw[uv] at R ae;have:yC l n:=⟨R,ae⟩;simp[this]
theorem TG (x y:Int):zf (x,y,())=some (decide (x<y),()):=by unfold zf wW;simp
theorem aca (x:Int) (J:0<=x) (R:x<18446744073709551616):IntKind.u64.wrap x=x:=by unfold IntKind.wrap;rw[if_neg (by simp[IntKind.signed])];show x %18446744073709551616=x;omega
theorem act (l:List Int) (v:Int) (ah:l.length<4611686018427387904) (ay:l.Pairwise (· < ·)):U (JK (l,v,())) (fun r=>r.2.1=decide (v∈l)):=by
 unfold JK;simp only[U.c8];refine U.mono (P:=fun q=>∃i:Nat,q.1=(i:Int)/\i<=l.length/\(∀k,(h:k<l.length)->k<i->l[k]<v)/\(∀k,(h:k<l.length)->i<=k->v<=l[k])) ?_ ?_
 ·refine U.loop (fun s=>∃i j:Nat,s.1=(i:Int)/\s.2.1=(j:Int)/\i<=j/\j<=l.length/\(∀k,(h:k<l.length)->k<i->l[k]<v)/\(∀k,(h:k<l.length)->j<=k->v<=l[k])) (fun s=>(s.2.1-s.1).toNat) ⟨0,l.length,rfl,rfl,eL _,bS _,fun k _ h=>by omega,fun k J R=>by omega⟩ ?_;rintro⟨kB,r7,_⟩ ⟨i,j,rfl,rfl,dz,al,J,R⟩;simp only[U.c7,U.c8,U.au];refine⟨fun cg=>?_,fun kW=>?_⟩
  ·have cg:i<j:=(by simpa using cg);have aC:IntKind.i64.wrap ((i:Int)+j)=(i:Int)+j:=wrap64 (by omega) (by omega);rw[aC,aca _ (by omega) (by omega)];have hs:ec IntKind.u64 ((i:Int)+j) 1=some (((i+j)/2:Nat):Int):=by
    unfold ec;rw[if_pos (by omega)];congr 1;show((i:Int)+j).fdiv (2^min 1 64)=_;rw[show(2:Int)^min 1 64=2 from rfl,Ig _ (by omega)];omega
   rw[hs];simp only[U.au];have aV:IntKind.i64.wrap (((i+j)/2:Nat):Int)=(((i+j)/2:Nat):Int):=wrap64 (by omega) (by omega);rw[aV,U.jL];refine⟨by omega,?_⟩;rw[TG];simp only[U.au,U.c7];have ax:(i+j)/2<l.length:=(by omega);refine⟨fun xv=>?_,fun xv=>?_⟩
   ·have xv:l[(i+j)/2]<v:=(by simpa using xv);rw[gR (by omega)];refine⟨⟨(i+j)/2+1,j,rfl,rfl,by omega,al,fun k ac oW=>?_,R⟩,by omega⟩;rcases ch k ((i+j)/2) with h|h
    ·exact Int.lt_trans ((iX.1 ay) k _ ac ax h) xv
    ·have:k=(i+j)/2:=(by omega);subst this;exact xv
   ·have xv:v<=l[(i+j)/2]:=(by simpa using xv);refine⟨⟨i,(i+j)/2,rfl,rfl,by omega,by omega,J,fun k ac oW=>?_⟩,by omega⟩;rcases ch ((i+j)/2) k with h|h
    ·have:=(iX.1 ay) _ k ax ac h;omega
    ·have:k=(i+j)/2:=(by omega);subst this;exact xv
  ·have alp:i=j:=by
    have:¬i<j:=(by simpa using kW);omega
   subst alp;exact⟨i,rfl,al,J,R⟩
 ·rintro⟨kB,_⟩ ⟨i,rfl,hi,J,R⟩;simp only;have l8:(∀h:i<l.length,l[i]≠v)->v∉l:=by
   intro cL ao;obtain⟨k,ac,rfl⟩:=jk.1 ao;rcases rl k i with h|h|h
   ·have:=J k ac h;omega
   ·subst h;exact cL ac rfl
   ·have cq:=R i (by omega) (bS _);have dv:=(iX.1 ay) i k (by omega) ac h;omega
  simp only[U.c7,U.c8,U.au,U.jL];refine⟨fun cg=>?_,fun kW=>?_⟩
  ·have cg:i<l.length:=(by simpa using cg);refine⟨cg,fun cL=>?_,fun heq=>?_⟩
   ·have cL:l[i]≠v:=(by simpa using cL);refine⟨cg,?_⟩;unfold JQ;simp[U.au];exact l8 (fun _=>cL)
   ·have heq:l[i]=v:=(by simpa using heq);simp[<-heq]
  ·have kW:¬i<l.length:=(by simpa using kW);simp;exact l8 (fun h=>absurd h kW)
structure fK (aj:List (List Int)):Prop where
 asc:∀v,(h:v<aj.length)->yC aj[v] aj.length
 XX:∀v,(h:v<aj.length)->(v:Int)∉aj[v]
 sym:∀v,(h:v<aj.length)->∀w:Nat,(hw:w<aj.length)->(w:Int)∈aj[v]->(v:Int)∈aj[w]
open Classical in
def jJ (aj:List (List Int)):Int:=if 200<aj.length then 6 else if fK aj then 0 else 1
open Classical in
theorem Qy (aj:List (List Int)) (v:Nat) (w:Int) (hv:v<aj.length) (ah:aj[v].length<4611686018427387904) (ay:aj[v].Pairwise (· < ·)):B0 ((aj,()),(v:Int),w,())=some (decide (w∈aj[v]),()):=by rw[<-U.eq_iff];unfold B0;simp only[U.c8,U.jL];refine⟨hv,(act _ _ ah ay).mono ?_⟩;rintro⟨i,b,_⟩ h;simp only at h;rw[U.au,h]
theorem Tv (aj:List (List Int)) (hc:∀l∈aj,l.length<4611686018427387904):EG ((aj,()),())=some (jJ aj,()):=by
 classical
 rw[<-U.eq_iff];unfold EG;simp only[U.c7,U.c8,U.au];refine⟨fun h=>?_,fun h=>?_⟩
 ·have:200<aj.length:=(by simp at h;omega);simp[jJ,this]
 have ag:¬200<aj.length:=(by simp at h;omega);have pA:¬fK aj->(1:Int)=jJ aj:=fun h=>(by simp[jJ,ag,h]);refine U.mono (P:=fun q=>(q=.inr (1,())/\¬fK aj)\/(q=.inl ()/\∀k,(h:k<aj.length)->yC aj[k] aj.length/\(k:Int)∉aj[k])) ?_ ?_
 ·refine U.for (i0:=0) aj.length (fun i _=>∀k,k<i->(h:k<aj.length)->yC aj[k] aj.length/\(k:Int)∉aj[k]) rfl (fun k ac=>by omega) (eL _) ?_ ?_
  ·rintro i _ _ hi cK;simp only[U.c7,U.c8,U.au,U.jL];refine⟨fun _=>⟨hi,?_⟩,fun aF=>by simp at aF;omega⟩;rw[agv _ _ (hc _ (dt hi))];simp only[U.au];refine⟨fun aG=>?_,fun aG=>.inl ⟨trivial,fun hv=>?_⟩⟩
   ·have aG:yC aj[i] aj.length:=(by simpa using aG);rw[Qy aj i i hi (hc _ (dt hi)) aG.1];simp only[U.au,U.c7];refine⟨fun al=>.inl ⟨trivial,fun hv=>hv.XX i hi (by simpa using al)⟩,fun al=>⟨gR (by omega),fun k ac pE=>?_⟩⟩;rcases ch k i with R|R
    ·exact cK k R pE
    ·obtain rfl:k=i:=(by omega);exact⟨aG,by simpa using al⟩
   ·have:=hv.asc i hi;simp[this] at aG
  ·intro t cK;simp only[U.c7,U.au];exact⟨fun aF=>by simp at aF,fun _=>.inr ⟨trivial,fun k ac=>cK k ac ac⟩⟩
 ·rintro q (⟨rfl,hv⟩|⟨rfl,eS⟩)
  ·simp only[U.au,pA hv]
  simp only[U.c8];have amo:(∀v,(h:v<aj.length)->∀x∈aj[v],∀w:Nat,x=(w:Int)->(hw:w<aj.length)->(v:Int)∈aj[w])->fK aj:=fun h=>⟨fun v hv=>(eS v hv).1,fun v hv=>(eS v hv).2,fun v hv w hw ao=>h v hv w ao w rfl hw⟩;refine U.mono (P:=fun q=>(q=.inr (1,())/\¬fK aj)\/(q=.inl ()/\∀v,(h:v<aj.length)->∀x∈aj[v],∀w:Nat,x=(w:Int)->(hw:w<aj.length)->(v:Int)∈aj[w])) ?_ ?_
  ·refine U.for (i0:=0) aj.length (fun i _=>∀v,v<i->(h:v<aj.length)->∀x∈aj[v],∀w:Nat,x=(w:Int)->(hw:w<aj.length)->(v:Int)∈aj[w]) rfl (fun k ac=>by omega) (eL _) ?_ ?_
   ·rintro i _ _ hi cK;simp only[U.c7,U.c8,U.jL];refine⟨fun _=>⟨hi,?_⟩,fun aF=>by simp at aF;omega⟩;have alB:=hc _ (dt hi);refine U.mono (P:=fun q=>(q=.inr (.inr (.inr (1,())))/\¬fK aj)\/(q=.inl ()/\∀x∈aj[i],∀w:Nat,x=(w:Int)->(hw:w<aj.length)->(i:Int)∈aj[w])) ?_ ?_
    ·refine U.for (i0:=0) aj[i].length (fun k _=>∀m,m<k->(h:m<aj[i].length)->∀w:Nat,aj[i][m]=(w:Int)->(hw:w<aj.length)->(i:Int)∈aj[w]) rfl (fun k ac=>by omega) (eL _) ?_ ?_
     ·rintro k _ _ ac cn;simp only[U.c7,U.c8,U.jL];refine⟨fun _=>⟨ac,?_⟩,fun aF=>by simp at aF;omega⟩;have hr:=(eS i hi).1.2 _ (dt ac);obtain⟨w,hw⟩:∃w:Nat,aj[i][k]=(w:Int):=⟨aj[i][k].toNat,by omega⟩;have r5:w<aj.length:=(by omega);rw[hw,Qy aj w i r5 (hc _ (dt r5)) (eS w r5).1.1];simp only[U.au,U.c7];refine⟨fun l8=>.inl ⟨trivial,fun hv=>?_⟩,fun Ls=>⟨gR (by omega),fun m ao FX w' amz amA=>?_⟩⟩
      ·have:=hv.sym i hi w r5 (hw▸dt ac);simp[this] at l8
      ·rcases ch m k with R|R
       ·exact cn m R FX w' amz amA
       ·obtain rfl:m=k:=(by omega);have:w'=w:=(by omega);subst this;simpa using Ls
     ·intro t cn;simp only[U.c7,U.au];refine⟨fun aF=>by simp at aF,fun _=>.inr ⟨trivial,fun x ab w hw r5=>?_⟩⟩;obtain⟨m,ao,rfl⟩:=jk.1 ab;exact cn m ao ao w hw r5
    ·rintro q (⟨rfl,hv⟩|⟨rfl,h3⟩)
     ·simp only[U.au];exact .inl ⟨trivial,hv⟩
     ·simp only[U.au];refine⟨gR (by omega),fun v hv qH=>?_⟩;rcases ch v i with R|R
      ·exact cK v R qH
      ·obtain rfl:v=i:=(by omega);exact h3
   ·intro t cK;simp only[U.c7,U.au];exact⟨fun aF=>by simp at aF,fun _=>.inr ⟨trivial,fun k ac=>cK k ac ac⟩⟩
  ·rintro q (⟨rfl,hv⟩|⟨rfl,h3⟩)
   ·simp only[U.au,pA hv]
   ·simp only[U.au];simp[jJ,ag,amo h3]
end
section
inductive fx (A:Nat->Nat->Prop) (k:Nat):Nat->Nat->Prop
 |one {i j:Nat}:A i j->fx A k i j
 |step {i m j:Nat}:A i m->m<k->fx A k m j->fx A k i j
section
variable {A:Nat->Nat->Prop} {k:Nat}
theorem fx.trans {i m j:Nat} (h:fx A k i m) (ao:m<k) (R:fx A k m j):fx A k i j:=by
 induction h with
 |one h=>exact .step h ao R
 |step h ac _ aT=>exact .step h ac (aT ao R)
theorem fx.symm (eS:∀a b,A a b->A b a) {i j:Nat} (h:fx A k i j):fx A k j i:=by
 induction h with
 |one h=>exact .one (eS _ _ h)
 |step h ac _ aT=>exact aT.trans ac (.one (eS _ _ h))
theorem fx.mono {cN:Nat} (ac:k<=cN) {i j:Nat} (h:fx A k i j):fx A cN i j:=by
 induction h with
 |one h=>exact .one h
 |step h R _ aT=>exact .step h (by omega) aT
theorem fx.first {u p:Nat} (aQ:u<p) (h:fx A p u p):∃w,u<w/\w<=p/\fx A u u w/\(w=p\/fx A p w p):=by
 have key:∀{a b:Nat},fx A p a b->b=p->(a=u\/(a<u/\fx A u u a))->∃w,u<w/\w<=p/\fx A u u w/\(w=p\/fx A p w p):=by
  intro a b h
  induction h with
  |@one a b aU=>
   intro aa aG;subst aa;refine⟨b,aQ,bS _,?_,.inl rfl⟩;rcases aG with rfl|⟨aG,hw⟩
   ·exact .one aU
   ·exact hw.trans aG (.one aU)
  |@step a m b aU ao hw aT=>
   intro aa aG;have J:fx A u u m:=by
    rcases aG with rfl|⟨aG,hw⟩
    ·exact .one aU
    ·exact hw.trans aG (.one aU)
   rcases rl m u with hmu|hmu|hmu
   ·exact aT aa (.inr ⟨hmu,J⟩)
   ·exact aT aa (.inl hmu)
   ·subst aa;exact⟨m,hmu,by omega,J,.inr hw⟩
 exact key h rfl (.inl rfl)
def my (A:Nat->Nat->Prop) (u p:Nat):Prop:=u<p/\fx A p u p/\∀q,u<q->q<p->¬fx A q u q
theorem my.uniq {u p q:Nat} (h:my A u p) (a2:my A u q):p=q:=by
 rcases rl p q with ah|aE|ah
 ·exact absurd h.2.1 (a2.2.2 p h.1 ah)
 ·exact aE
 ·exact absurd a2.2.1 (h.2.2 q a2.1 ah)
theorem my.fill {u p:Nat} (h:my A u p):fx A u u p:=by
 obtain⟨w,J,R,ae,aI⟩:=fx.first h.1 h.2.1;rcases ch w p with ah|ah
 ·exact absurd (ae.mono (by omega)) (h.2.2 w J ah)
 ·obtain rfl:w=p:=(by omega);exact ae
theorem aac {u q:Nat} (ai:u<q) (hw:fx A q u q):∃p,p<=q/\my A u p:=by
 have:∀n,∀q,u<q->q<=n->fx A q u q->∃p,p<=q/\my A u p:=by
  intro n
  induction n with
  |zero=>intro q J R;omega
  |succ n aT=>
   intro q J R ae;by_cases h:∃r,u<r/\r<q/\fx A r u r
   ·obtain⟨r,lx,e2,P6⟩:=h;obtain⟨p,P1,rZ⟩:=aT r lx (by omega) P6;exact⟨p,by omega,rZ⟩
   ·exact⟨q,bS _,J,ae,fun r lx e2 P6=>h ⟨r,lx,e2,P6⟩⟩
 exact this q q ai (bS _) hw
inductive iH (A:Nat->Nat->Prop):Nat->Nat->Prop
 |refl (u:Nat):iH A u u
 |up {u p v:Nat}:my A u p->iH A p v->iH A u v
theorem iH.le {u v:Nat} (h:iH A u v):u<=v:=by
 induction h with
 |refl=>exact bS _
 |up ay _ aT=>have:=ay.1;omega
theorem iH.trans {u v w:Nat} (h:iH A u v) (R:iH A v w):iH A u w:=by
 induction h with
 |refl=>exact R
 |up ay _ aT=>exact .up ay (aT R)
theorem iH.walk {u v:Nat} (h:iH A u v):u=v\/fx A v u v:=by
 induction h with
 |refl=>exact .inl rfl
 |@up u p v ay hv aT=>
  right;have al4:=hv.le;rcases aT with rfl|aT
  ·exact ay.2.1
  ·rcases ch p v with ah|ah
   ·exact(ay.2.1.mono al4).trans ah aT
   ·obtain rfl:p=v:=(by omega);exact ay.2.1
theorem agh (eS:∀a b,A a b->A b a) {u j:Nat} (aQ:u<j) (h:fx A j u j):iH A u j:=by
 have:∀n,∀u,u<j->j-u<=n->fx A j u j->iH A u j:=by
  intro n
  induction n with
  |zero=>intro u J R;omega
  |succ n aT=>
   intro u J R ae;obtain⟨p,P1,rZ⟩:=aac J ae;rcases ch p j with ah|ah
   ·refine .up rZ (aT p ah (by have:=rZ.1;omega) ?_);exact((rZ.2.1.symm eS).mono (by omega)).trans J ae
   ·obtain rfl:p=j:=(by omega);exact .up rZ (.refl _)
 exact this (j-u) u aQ (bS _) h
theorem aa1 (eS:∀a b,A a b->A b a) {i j:Nat} (dz:j<i):fx A j j i↔∃k,A i k/\iH A k j:=by
 constructor
 ·intro h;have a2:=h.symm eS;cases a2 with
  |one J=>exact⟨j,J,.refl _⟩
  |@step _ m _ J ao hw=>exact⟨m,J,agh eS ao hw⟩
 ·rintro⟨k,J,R⟩;have:∀{k j:Nat},iH A k j->j<i->(k<i->fx A k k i)->fx A j j i:=by
   intro k j h
   induction h with
   |refl=>intro al h;exact h al
   |@up u p v ay hv aT=>
    intro lz aQ;refine aT lz (fun P2=>?_);have amt:u<i:=(by have:=ay.1;omega);have J:=aQ amt;have R:=ay.fill;exact((R.symm eS).mono (by have:=ay.1;omega)).trans ay.1 (J.mono (by have:=ay.1;omega))
  exact this R dz (fun _=>.one (eS _ _ J))
end
end
section
def e0 (aj:List (List Int)) (v w:Nat):Prop:=∃h:v<aj.length,(w:Int)∈aj[v]
theorem e0.lt {aj:List (List Int)} (hv:fK aj) {v w:Nat} (h:e0 aj v w):v<aj.length/\w<aj.length:=by obtain⟨J,R⟩:=h;have:=(hv.asc v J).2 _ R;exact⟨J,by omega⟩
theorem e0.symm {aj:List (List Int)} (hv:fK aj):∀v w,e0 aj v w->e0 aj w v:=fun v w h=>by obtain⟨J,R⟩:=h.lt hv;exact⟨R,hv.sym v J w R h.2⟩
theorem e0.ne {aj:List (List Int)} (hv:fK aj) {v w:Nat} (h:e0 aj v w):v≠w:=fun e=>by subst e;exact hv.XX v h.1 h.2
theorem fx.lt {aj:List (List Int)} (hv:fK aj) {k i j:Nat} (h:fx (e0 aj) k i j):i<aj.length/\j<aj.length:=by
 induction h with
 |one h=>exact h.lt hv
 |step h _ _ aT=>exact⟨(h.lt hv).1,aT.2⟩
inductive hZ (b8:Nat->Nat->Prop):Nat->Nat->Prop
 |refl (u:Nat):hZ b8 u u
 |step {u p v:Nat}:b8 u p->hZ b8 p v->hZ b8 u v
theorem hZ.trans {b8:Nat->Nat->Prop} {u v w:Nat} (h:hZ b8 u v) (R:hZ b8 v w):hZ b8 u w:=by
 induction h with
 |refl=>exact R
 |step h _ aT=>exact .step h (aT R)
theorem hZ.mono {b8 TN:Nat->Nat->Prop} (ar:∀u p,b8 u p->TN u p) {u v:Nat} (h:hZ b8 u v):hZ TN u v:=by
 induction h with
 |refl=>exact .refl _
 |step h _ aT=>exact .step (ar _ _ h) aT
theorem hZ.comp {b8:Nat->Nat->Prop} (jX:∀u p q,b8 u p->b8 u q->p=q) {u a b:Nat} (h:hZ b8 u a) (R:hZ b8 u b):hZ b8 a b\/hZ b8 b a:=by
 induction h with
 |refl=>exact .inl R
 |@step u p a ar hv aT=>
  cases R with
  |refl=>exact .inr (.step ar hv)
  |@step _ q _ ev lz=>
   obtain rfl:=jX _ _ _ ar ev;exact aT lz
section
variable (aj:List (List Int))
def ux (j:Nat) (T:Nat->Prop) (u p:Nat):Prop:=
 (p<j/\my (e0 aj) u p)\/(p=j/\u<j/\(∀q,q<j->¬my (e0 aj) u q)/\∃i,T i/\i<j/\e0 aj j i/\iH (e0 aj) i u)
def fJ (dS:List Int) (u p:Nat):Prop:=dS[u]?=some (p:Int)
structure nh (j:Nat) (T:Nat->Prop) (dS nU:List Int):Prop where
 Aw:dS.length=aj.length
 Yn:nU.length=aj.length
 m5:∀u p,fJ dS u p↔(u<aj.length/\ux aj j T u p)
 none:∀(u:Nat) (x:Int),dS[u]?=some x->x=-1\/∃p:Nat,x=(p:Int)
 IC:∀u:Nat,nU[u]?=some (-1)↔dS[u]?=some (-1)
 ID:∀(u:Nat) (x:Int),nU[u]?=some x->x=-1\/∃a p:Nat,x=(a:Int)/\fJ dS u p/\hZ (fJ dS) p a
variable {aj} {j:Nat} {T:Nat->Prop} {dS nU:List Int}
theorem ux.lt {u p:Nat} (h:ux aj j T u p):u<p/\p<=j:=by
 rcases h with⟨J,R⟩|⟨J,R,_⟩
 ·exact⟨R.1,by omega⟩
 ·omega
theorem nh.yp (h:nh aj j T dS nU) {u v:Nat} (aQ:hZ (fJ dS) u v):u<=v/\(u=v\/v<=j):=by
 induction aQ with
 |refl=>exact⟨bS _,.inl rfl⟩
 |@step u p v ar hv aT=>
  have J:=((h.m5 _ _).1 ar).2.lt;rcases aT.2 with e|e
  ·exact⟨by omega,.inr (by omega)⟩
  ·exact⟨by omega,.inr e⟩
theorem nh.S9 (h:nh aj j T dS nU) {u v:Nat} (aQ:hZ (fJ dS) u v) (hv:v<j):iH (e0 aj) u v:=by
 induction aQ with
 |refl=>exact .refl _
 |@step u p v ar iQ aT=>
  have ay:p<=v:=(h.yp iQ).1;rcases((h.m5 _ _).1 ar).2 with⟨_,R⟩|⟨J,_⟩
  ·exact .up R (aT hv)
  ·omega
theorem nh.abV (h:nh aj j T dS nU) {u:Nat} (aQ:hZ (fJ dS) u j) (cg:u<j):∃w,iH (e0 aj) u w/\w<j/\fJ dS w j:=by
 generalize hv:j=v at aQ
 induction aQ with
 |refl=>omega
 |@step u p v ar iQ aT=>
  subst hv;have J:=((h.m5 _ _).1 ar).2.lt;rcases ch p j with ay|ay
  ·obtain⟨w,ys,e7,dF⟩:=aT ay rfl;rcases((h.m5 _ _).1 ar).2 with⟨_,R⟩|⟨R,_⟩
   ·exact⟨w,.up R ys,e7,dF⟩
   ·omega
  ·obtain rfl:p=j:=(by omega);exact⟨u,.refl _,by omega,ar⟩
theorem Su {j u:Nat} {r s:Nat} (h:iH (e0 aj) u r) (a2:iH (e0 aj) u s) (hr:∀q,q<j->¬my (e0 aj) r q) (hs:∀q,q<j->¬my (e0 aj) s q) (Ab:r<j) (awM:s<j):r=s:=by
 induction h with
 |refl u=>
  cases a2 with
  |refl=>rfl
  |@up _ p _ ay hv=>exact absurd ay (hr p (by have:=hv.le;omega))
 |@up u p r ay hv aT=>
  cases a2 with
  |refl=>exact absurd ay (hs p (by have:=hv.le;omega))
  |@up _ q _ ai hw=>
   obtain rfl:=ay.uniq ai;exact aT hw hr Ab
theorem fJ.jX {dS:List Int}:∀u p q,fJ dS u p->fJ dS u q->p=q:=fun u p q h a2=>by unfold fJ at h a2;rw[h] at a2;simp at a2;omega
theorem hZ.tail {b8:Nat->Nat->Prop} {u v:Nat} (h:hZ b8 u v) (cL:u≠v):∃p,b8 u p/\hZ b8 p v:=by
 cases h with
 |refl=>exact absurd rfl cL
 |step ar hv=>exact⟨_,ar,hv⟩
theorem am2 (c6:fK aj) (ag:aj.length<=200) (h:nh aj j T dS nU) (al:j<aj.length) {i0:Nat} (z6:e0 aj j i0):U (Jh ((dS,(nU,())),(i0:Int),(j:Int),())) (fun r=>nh aj j (fun i=>T i\/i=i0) r.1.1 r.1.2.1):=by
 have j5:i0<aj.length:=(z6.lt c6).2;unfold Jh;simp only[U.c8]
 let Fin:List Int->List Int->Prop:=fun AL rv=>
  (∀u,rv[u]?=nU[u]?\/(rv[u]?=some (j:Int)/\u<j/\hZ (fJ dS) i0 u))/\rv.length=aj.length/\
  ((AL=dS/\(hZ (fJ dS) i0 j\/j<=i0))\/∃r,r<j/\dS[r]?=some (-1)/\hZ (fJ dS) i0 r/\AL=dS.set r (j:Int)/\rv[r]?=some (j:Int))
 refine U.mono (P:=fun q=>Fin q.1.1 q.1.2.1) ?_ ?_
 ·refine U.loop (fun s=>(s.1=-1/\Fin s.2.1.1 s.2.1.2.1)\/∃i:Nat,s.1=(i:Int)/\i<aj.length/\hZ (fJ dS) i0 i/\s.2.1.1=dS/\s.2.1.2.1.length=aj.length/\∀u,s.2.1.2.1[u]?=nU[u]?\/(s.2.1.2.1[u]?=some (j:Int)/\u<j/\u<i/\hZ (fJ dS) i0 u)) (fun s=>if s.1=-1 then 0 else 1000-s.1.toNat) (.inr ⟨i0,rfl,j5,.refl _,rfl,h.Yn,fun u=>.inl rfl⟩) ?_;rintro⟨kB,⟨AL,rv,_⟩,_⟩ hs;simp only at hs;simp only[U.c8,U.c7,U.au];rcases hs with⟨rfl,c9⟩|⟨i,rfl,hi,iQ,rfl,Pr,Ct⟩
  ·exact⟨fun aF=>by simp at aF,fun _=>c9⟩
  refine⟨fun _=>⟨fun dz=>?_,fun dz=>?_⟩,fun aF=>by simp at aF⟩
  ·have dz:i<j:=(by simpa using dz);simp only[U.tv,U.sW,U.GW,U.au,d4];have u5:i<rv.length:=(by omega);have WE:rv[i]?=nU[i]?:=by
    rcases Ct i with e|⟨_,_,ah,_⟩
    ·exact e
    ·omega
   refine⟨⟨by omega,u5⟩,u5,⟨by omega,u5⟩,u5,fun l7=>?_,fun l7=>?_⟩
   ·have l7:rv[i]=-1:=(by simpa using l7);have xA:AL[i]?=some (-1):=(h.IC i).1 (by rw[<-WE,ct u5,l7]);have nz:i<AL.length:=(by rw[h.Aw];exact hi);refine⟨⟨by omega,nz⟩,nz,.inl ⟨l7,?_,?_,.inr ⟨i,dz,xA,iQ,rfl,?_⟩⟩,?_⟩
    ·intro u;rcases rl u i with aQ|aQ|aQ
     ·rw[pd (by omega)];exact(Ct u).imp id (fun⟨a,b,_,c⟩=>⟨a,b,c⟩)
     ·subst aQ;rw[nP u5];exact .inr ⟨rfl,dz,iQ⟩
     ·rw[pd (by omega)];exact(Ct u).imp id (fun⟨a,b,_,c⟩=>⟨a,b,c⟩)
    ·simp[Pr]
    ·rw[nP u5]
    ·rw[if_pos l7,if_neg (by omega)];omega
   ·have l7:rv[i]≠-1:=(by simpa using l7);rcases h.ID i rv[i] (by rw[<-WE,ct u5]) with e|⟨a,p,aG,ar,Lj⟩
    ·exact absurd e l7
    have cg:=((h.m5 _ _).1 ar).2.lt;have al0:=h.yp Lj;have nu:a<aj.length:=by rcases al0.2 with e|e<;>omega
    refine⟨.inr ⟨a,aG,nu,iQ.trans (.step ar Lj),trivial,by simp[Pr],fun u=>?_⟩,?_⟩
    ·rcases rl u i with aQ|aQ|aQ
     ·rw[pd (by omega)];exact(Ct u).imp id (fun⟨cq,b,c,d⟩=>⟨cq,b,by omega,d⟩)
     ·subst aQ;rw[nP u5];exact .inr ⟨rfl,dz,by omega,iQ⟩
     ·rw[pd (by omega)];exact(Ct u).imp id (fun⟨cq,b,c,d⟩=>⟨cq,b,by omega,d⟩)
    ·rw[if_neg l7,if_neg (by omega),aG];simp only[d4];omega
  ·have dz:j<=i:=(by simpa using dz);refine⟨fun u=>(Ct u).imp id (fun⟨a,b,_,c⟩=>⟨a,b,c⟩),Pr,.inl ⟨rfl,?_⟩⟩;rcases(h.yp iQ).2 with e|e
   ·exact .inr (by omega)
   ·obtain rfl:i=j:=(by omega);exact .inl iQ
 ·rintro⟨⟨AL,rv,_⟩,_⟩ ⟨f1,cC,hA⟩;simp only at f1 cC hA;simp only[U.au];rcases hA with⟨rfl,iQ⟩|⟨r,hr,xA,iQ,rfl,akK⟩
  ·have vc:∀u p,u<aj.length->(ux aj j (fun i=>T i\/i=i0) u p↔ux aj j T u p):=by
    intro u p _;constructor
    ·rintro(J|⟨rfl,R,ae,i,bd,dz,aa,nv⟩)
     ·exact .inl J
     ·rcases bd with bd|rfl
      ·exact .inr ⟨rfl,R,ae,i,bd,dz,aa,nv⟩
      ·rcases iQ with iQ|iQ
       ·obtain⟨w,ys,e7,dF⟩:=h.abV iQ dz;have hw:=((h.m5 _ _).1 dF).2;rcases hw with⟨ax,_⟩|hw
        ·omega
        ·obtain rfl:=Su ys nv hw.2.2.1 ae e7 R;exact .inr hw
       ·omega
    ·rintro(J|⟨rfl,R,ae,i,bd,dz,aa,nv⟩)
     ·exact .inl J
     ·exact .inr ⟨rfl,R,ae,i,.inl bd,dz,aa,nv⟩
   refine⟨h.Aw,cC,fun u p=>(h.m5 u p).trans (and_congr_right fun aQ=>(vc u p aQ).symm),h.none,fun u=>?_,fun u x ab=>?_⟩
   ·rcases f1 u with e|⟨e,aQ,tg⟩
    ·rw[e];exact h.IC u
    ·rw[e];constructor
     ·intro ax;simp at ax
     ·intro ax;rcases iQ with iQ|iQ
      ·obtain⟨w,ys,e7,dF⟩:=h.abV iQ (by have:=(h.yp tg).1;omega);have nv:=h.S9 tg aQ;have tq:∀q,q<j->¬my (e0 aj) u q:=fun q ai ay=>by
        have:fJ AL u q:=(h.m5 u q).2 ⟨by omega,.inl ⟨ai,ay⟩⟩;unfold fJ at this;rw[ax] at this;simp at this
       rcases((h.m5 _ _).1 dF).2 with⟨awB,_⟩|hw
       ·omega
       ·obtain rfl:=Su ys nv hw.2.2.1 tq e7 aQ;unfold fJ at dF;rw[ax] at dF;simp at dF
      ·have:=(h.yp tg).1;omega
   ·rcases f1 u with e|⟨e,aQ,tg⟩
    ·rw[e] at ab;exact h.ID u x ab
    ·rw[e] at ab;cases ab;right;have W2:i0<j:=(by have:=(h.yp tg).1;omega);rcases iQ with iQ|iQ
     ·rcases tg.comp fJ.jX iQ with hc|hc
      ·obtain⟨p,P1,rZ⟩:=hc.tail (by omega);exact⟨j,p,rfl,P1,rZ⟩
      ·have:=(h.yp hc).1;omega
     ·omega
  ·have qG:r<dS.length:=by
    rcases ch r dS.length with ax|ax
    ·exact ax
    ·rw[gy ax] at xA;cases xA
   have CI:∀p,¬fJ dS r p:=fun p ay=>(by unfold fJ at ay;rw[xA] at ay;simp at ay);have Ab:∀q,q<j->¬my (e0 aj) r q:=fun q ai ay=>CI q ((h.m5 r q).2 ⟨by have:=h.Aw;omega,.inl ⟨ai,ay⟩⟩);have fh:∀u p,fJ dS u p->fJ (dS.set r (j:Int)) u p:=fun u p ay=>(by have cL:u≠r:=fun e=>CI p (e▸ay);unfold fJ at ay|-;rw[pd (by omega)];exact ay);have Ae:fJ (dS.set r (j:Int)) r j:=(by unfold fJ;rw[nP qG]);have W2:i0<j:=(by have:=(h.yp iQ).1;omega);have XF:∀u,hZ (fJ dS) i0 u->u≠r->∃p,fJ dS u p/\hZ (fJ dS) p r:=fun u aQ cL=>by
    rcases aQ.comp fJ.jX iQ with hc|hc
    ·exact hc.tail cL
    ·obtain⟨p,ay,_⟩:=hc.tail (Ne.symm cL);exact absurd ay (CI p)
   refine⟨by simp[h.Aw],cC,fun u p=>?_,fun u x ab=>?_,fun u=>?_,fun u x ab=>?_⟩
   ·by_cases tr:u=r
    ·subst tr;have e:fJ (dS.set u (j:Int)) u p↔p=j:=⟨fun ay=>fJ.jX _ _ _ ay Ae,fun e=>e▸Ae⟩;rw[e];constructor
     ·rintro rfl;exact⟨by have:=h.Aw;omega,.inr ⟨rfl,hr,Ab,i0,.inr rfl,W2,z6,h.S9 iQ hr⟩⟩
     ·rintro⟨_,⟨J,R⟩|⟨J,_⟩⟩
      ·exact absurd R (Ab p J)
      ·exact J
    ·have e:fJ (dS.set r (j:Int)) u p↔fJ dS u p:=(by unfold fJ;rw[pd (by omega)]);rw[e,h.m5];refine and_congr_right fun _=>?_;constructor
     ·rintro(J|⟨rfl,R,ae,i,bd,dz,aa,nv⟩)
      ·exact .inl J
      ·exact .inr ⟨rfl,R,ae,i,.inl bd,dz,aa,nv⟩
     ·rintro(J|⟨rfl,R,ae,i,bd,dz,aa,nv⟩)
      ·exact .inl J
      ·rcases bd with bd|rfl
       ·exact .inr ⟨rfl,R,ae,i,bd,dz,aa,nv⟩
       ·exact absurd (Su nv (h.S9 iQ hr) ae Ab R hr) tr
   ·by_cases tr:u=r
    ·subst tr;rw[nP qG] at ab;cases ab;exact .inr ⟨j,rfl⟩
    ·rw[pd (by omega)] at ab;exact h.none u x ab
   ·by_cases tr:u=r
    ·subst tr;rw[akK,nP qG]
    ·rw[pd (by omega)];rcases f1 u with e|⟨e,aQ,tg⟩
     ·rw[e];exact h.IC u
     ·rw[e];constructor
      ·intro ax;simp at ax
      ·intro ax;obtain⟨p,ay,_⟩:=XF u tg tr;unfold fJ at ay;rw[ax] at ay;simp at ay
   ·rcases f1 u with e|⟨e,aQ,tg⟩
    ·rw[e] at ab;rcases h.ID u x ab with e|⟨a,p,aG,ar,Lj⟩
     ·exact .inl e
     ·exact .inr ⟨a,p,aG,fh _ _ ar,Lj.mono fh⟩
    ·rw[e] at ab;cases ab;right;by_cases tr:u=r
     ·subst tr;exact⟨j,j,rfl,Ae,.refl _⟩
     ·obtain⟨p,ay,al2⟩:=XF u tg tr;exact⟨j,p,rfl,fh _ _ ay,(al2.mono fh).trans (.step Ae (.refl _))⟩
end
end
theorem abh (n i:Nat) (l:List Int) (x:Int) (ah:l=List.replicate i x++List.replicate (n-i) 0) (hi:i<n):l.set i x=List.replicate (i+1) x++List.replicate (n-(i+1)) 0:=by
 subst ah;apply jj;intro k;rw[wD];simp only[qi,uu,List.getElem?_append,pc];split
 ·rename_i h;subst h;rw[if_pos (by omega),if_pos (by omega)];split<;>first|rfl|omega
 ·by_cases J:k<i
  ·rw[if_pos J,if_pos J,if_pos (show k<i+1 by omega),if_pos (show k<i+1 by omega)]
  ·rw[if_neg J,if_neg (show¬k<i+1 by omega)];by_cases R:k-i<n-i
   ·rw[if_pos R,if_pos (show k-(i+1)<n-(i+1) by omega)]
   ·rw[if_neg R,if_neg (show¬k-(i+1)<n-(i+1) by omega)]
theorem ape (n:Nat) (ag:n<=200):Ji ((n:Int),())=some ((List.replicate n (-1),(List.replicate n (-1),())),()):=by
 rw[<-U.eq_iff];unfold Ji;have gK:gv=4294967296:=rfl;simp only[U.c8,U.Da,U.au,d4];refine⟨⟨by omega,by omega,by omega⟩,⟨by omega,by omega,by omega⟩,?_⟩;refine U.for (i0:=0) n (fun i t=>t.1.1=List.replicate i (-1)++List.replicate (n-i) 0/\t.1.2.1=List.replicate i (-1)++List.replicate (n-i) 0) rfl ⟨by simp,by simp⟩ (eL _) ?_ ?_
 ·rintro i ⟨⟨p,a,_⟩,_⟩ _ hi ⟨J,R⟩;simp only at J R;have da:p.length=n:=(by rw[J];simp;omega);have l2:a.length=n:=(by rw[R];simp;omega);simp only[U.c7,U.c8,U.au,U.tv,U.sW,U.GW,d4];exact⟨fun _=>⟨⟨by omega,by omega⟩,by omega,⟨by omega,by omega⟩,by omega,gR (by omega),abh n i p _ J hi,abh n i a _ R hi⟩,fun aF=>by simp at aF;omega⟩
 ·rintro⟨⟨p,a,_⟩,_⟩ ⟨J,R⟩;simp only at J R;simp only[U.c7,U.au];refine⟨fun aF=>by simp at aF,fun _=>?_⟩;rw[J,R];simp
structure Nk (aj:List (List Int)) (dS:List Int):Prop where
 len:dS.length=aj.length
 m5:∀u p:Nat,dS[u]?=some (p:Int)↔my (e0 aj) u p
 none:∀(u:Nat) (x:Int),dS[u]?=some x->x=-1\/∃p:Nat,x=(p:Int)
theorem at4 (aj:List (List Int)):nh aj 0 (fun _=>False) (List.replicate aj.length (-1)) (List.replicate aj.length (-1)):=by
 refine⟨by simp,by simp,fun u p=>?_,fun u x ab=>?_,fun u=>Iff.rfl,fun u x ab=>?_⟩
 ·constructor
  ·intro h;unfold fJ at h;rw[pc] at h;split at h
   ·simp at h
   ·cases h
  ·rintro⟨_,⟨h,_⟩|⟨_,h,_⟩⟩<;>omega
 ·rw[pc] at ab;split at ab
  ·cases ab;exact .inl rfl
  ·cases ab
 ·rw[pc] at ab;split at ab
  ·cases ab;exact .inl rfl
  ·cases ab
theorem nh.abM {aj:List (List Int)} {j r7:Nat} {T jo:Nat->Prop} {dS nU:List Int} (h:nh aj j T dS nU) (aE:∀u p,u<aj.length->(ux aj j T u p↔ux aj r7 jo u p)):nh aj r7 jo dS nU:=
 ⟨h.Aw,h.Yn,fun u p=>(h.m5 u p).trans (and_congr_right fun aQ=>aE u p aQ),h.none,h.IC,h.ID⟩
theorem arW {aj:List (List Int)} (c6:fK aj) {j:Nat} {T:Nat->Prop} (bd:∀i,e0 aj j i->T i) (u p:Nat):ux aj j T u p↔ux aj (j+1) (fun _=>False) u p:=by
 have hs:=e0.symm c6;constructor
 ·rintro(⟨J,R⟩|⟨rfl,R,ae,i,_,dz,aa,nv⟩)
  ·exact .inl ⟨by omega,R⟩
  ·refine .inl ⟨by omega,R,?_,fun q pK hP hw=>?_⟩
   ·have cM:fx (e0 aj) p i p:=.one (hs _ _ aa);rcases nv.walk with rfl|hw
    ·exact cM
    ·exact((hw.symm hs).mono (by omega)).trans dz cM
   ·obtain⟨r,lx,e2⟩:=aac pK hw;exact ae r (by omega) e2
 ·rintro(⟨J,R⟩|⟨_,_,_,_,h,_⟩)
  ·rcases ch p j with ay|ay
   ·exact .inl ⟨ay,R⟩
   ·obtain rfl:p=j:=(by omega);obtain⟨k,mS,ga⟩:=(aa1 hs R.1).1 R.fill;exact .inr ⟨rfl,R.1,fun q ai P0=>by have:=P0.uniq R;omega,k,bd k mS,by have:=ga.le;have:=R.1;omega,mS,ga⟩
  ·exact h.elim
theorem afR (aj:List (List Int)) (hc:∀l∈aj,l.length<4611686018427387904) (ag:aj.length<=200) (c6:fK aj):U (Jg ((aj,()),())) (fun r=>r.2.1=0/\Nk aj r.1):=by
 classical
 unfold Jg;have FN:jJ aj=0:=(by unfold jJ;rw[if_neg (by omega),if_pos c6]);simp only[U.c8,Tv aj hc,FN,U.au,U.c7];refine⟨fun h=>by simp at h,fun _=>?_⟩;rw[ape _ ag];simp only[U.au];refine U.mono (P:=fun q=>nh aj aj.length (fun _=>False) q.1.1 q.1.2.1) ?_ ?_
 ·refine U.for (i0:=0) aj.length (fun j t=>nh aj j (fun _=>False) t.1.1 t.1.2.1) rfl (at4 aj) (eL _) ?_ ?_
  ·rintro j ⟨⟨p,a,_⟩,_⟩ _ al bB;simp only at bB;simp only[U.c7,U.c8,U.jL,U.au];refine⟨fun _=>⟨al,?_⟩,fun aF=>by simp at aF;omega⟩;have awF:=hc _ (dt al);refine U.mono (P:=fun q=>nh aj (j+1) (fun _=>False) q.1.1 q.1.2.1) ?_ ?_
   ·refine U.for (i0:=0) aj[j].length (fun k t=>nh aj j (fun i=>(i:Int)∈aj[j].take k) t.1.1 t.1.2.1) rfl (by simpa using bB) (eL _) ?_ ?_
    ·rintro k ⟨⟨vP,b2,_⟩,_⟩ _ ac l4;simp only at l4;simp only[U.c7,U.c8,U.jL,U.au];refine⟨fun _=>⟨ac,?_⟩,fun aF=>by simp at aF;omega⟩;have hr:=(c6.asc j al).2 _ (dt ac);obtain⟨i,hi⟩:∃i:Nat,aj[j][k]=(i:Int):=⟨aj[j][k].toNat,by omega⟩;have aa:e0 aj j i:=⟨al,hi▸dt ac⟩;rw[hi];refine(am2 c6 ag l4 al aa).mono ?_;rintro⟨⟨eF,dv,_⟩,_⟩ tc;simp only at tc;refine⟨gR (by omega),tc.abM (fun u q _=>?_)⟩;have e:(fun kB:Nat=>(kB:Int)∈aj[j].take k\/kB=i)=(fun kB:Nat=>(kB:Int)∈aj[j].take (k+1)):=by
      funext kB;rw[<-q1 ac,hi];apply propext;simp only[fe,fv];constructor<;>rintro(h|h)<;>first|exact .inl h|(right;omega)
     rw[e]
    ·rintro⟨⟨vP,b2,_⟩,_⟩ l4;simp only at l4;simp only[U.c7,U.au];refine⟨fun aF=>by simp at aF,fun _=>?_⟩;rw[uv] at l4;exact l4.abM (fun u q _=>arW c6 (fun i aa=>aa.2) u q)
   ·rintro⟨⟨vP,b2,_⟩,_⟩ l4;exact⟨gR (by omega),l4⟩
  ·rintro⟨⟨p,a,_⟩,_⟩ bB;simp only[U.c7,U.au];exact⟨fun aF=>by simp at aF,fun _=>bB⟩
 ·rintro⟨⟨p,a,_⟩,_⟩ bB;simp only at bB;refine⟨trivial,bB.Aw,fun u q=>?_,bB.none⟩;rw[show(p[u]?=some (q:Int))=fJ p u q from rfl,bB.m5];constructor
  ·rintro⟨_,⟨_,h⟩|⟨_,_,_,_,h,_⟩⟩
   ·exact h
   ·exact h.elim
  ·intro h;have:=h.2.1.lt c6;exact⟨this.1,.inl ⟨this.2,h⟩⟩
section
def mv (aj:List (List Int)) (j i:Nat):Prop:=i=j\/(j<i/\fx (e0 aj) j j i)
open Classical in
def pX (aj:List (List Int)) (i:Nat):List Int:=((List.range (i+1)).filter fun j=>decide (mv aj j i)).map fun(j:Nat)=>(j:Int)
open Classical in
def mH (aj:List (List Int)) (j k:Nat):List Int:=((List.range k).filter fun i=>decide (j<=i/\mv aj j i)).map fun(i:Nat)=>(i:Int)
def cT (aj:List (List Int)) (j:Nat):List Int:=mH aj j aj.length
theorem YO {aj:List (List Int)} {i j:Nat}:(j:Int)∈pX aj i↔j<=i/\mv aj j i:=by
 unfold pX;simp only[dj,hX,jl,decide_eq_true_eq];constructor
 ·rintro⟨a,⟨J,R⟩,ae⟩;have:a=j:=(by omega);subst this;exact⟨by omega,R⟩
 ·exact fun⟨J,R⟩=>⟨j,⟨by omega,R⟩,rfl⟩
theorem aoH {aj:List (List Int)} {i:Nat} {x:Int} (h:x∈pX aj i):∃j:Nat,x=(j:Int)/\j<=i/\mv aj j i:=by unfold pX at h;simp only[dj,hX,jl,decide_eq_true_eq] at h;obtain⟨a,⟨J,R⟩,ae⟩:=h;exact⟨a,ae.symm,by omega,R⟩
theorem mv.le {aj:List (List Int)} {j i:Nat} (h:mv aj j i):j<=i:=by rcases h with h|h<;>omega
theorem Db {aj:List (List Int)} {i j:Nat}:(i:Int)∈cT aj j↔i<aj.length/\mv aj j i:=by
 unfold cT mH;simp only[dj,hX,jl,decide_eq_true_eq];constructor
 ·rintro⟨a,⟨J,R⟩,ae⟩;have:a=i:=(by omega);subst this;exact⟨J,R.2⟩
 ·exact fun⟨J,R⟩=>⟨i,⟨J,R.le,R⟩,rfl⟩
theorem MS (p:Nat->Bool) (k:Nat):(((List.range k).filter p).map fun(j:Nat)=>(j:Int)).Pairwise (· < ·):=by rw[BC];refine List.Pairwise.filter _ ?_;exact List.pairwise_lt_range.imp (fun h=>by omega)
theorem atc (aj:List (List Int)) (i:Nat):(pX aj i).Pairwise (· < ·):=MS _ _
theorem N3 (aj:List (List Int)) (j:Nat):(cT aj j).Pairwise (· < ·):=MS _ _
theorem atd (aj:List (List Int)) (i:Nat):(pX aj i).length<=i+1:=by unfold pX;rw[iI];exact eu (kM _ _) (by simp)
theorem Vc (aj:List (List Int)) (j k:Nat):(mH aj j k).length<=k:=by unfold mH;rw[iI];exact eu (kM _ _) (by simp)
structure Ed (aj:List (List Int)) (i:Nat) (N:Nat->Prop) (m:List Bool):Prop where
 len:m.length=i+1
 top:m[i]?=some true
 iff:∀u,u<i->(m[u]?=some true↔∃k,N k/\iH (e0 aj) k u)
theorem ahv {aj:List (List Int)} (c6:fK aj) {dS:List Int} (c9:Nk aj dS) {i:Nat} (hi:i<aj.length) (ag:aj.length<=200) {N:Nat->Prop} {vv:List Bool} (bC:Ed aj i N vv) {k0:Nat} (ac:k0<aj.length):U (loop (σ:=axz) (ρ:=axF) (fun(r8,pP,_)=>
 Option.bind (α:=axF⊕axj) (bif decide (r8>=(0:Int))==true then bif decide (r8<(i:Int))==true then(cV pP.length r8).bind fun Gt=>
 (cy pP Gt fun Fm=>some Fm).bind fun yx=>
  bif !yx then
 some (.inl (pP,())) else
 some (.inr (.inr (pP,()))) else some (.inr (.inr (pP,()))) else some (.inr (.inr (pP,())))) fun q=>match q with
 |.inl (AB,_)=>(
 (cV AB.length r8).bind fun Gu=>
 (cy AB Gu fun _=>some (AB.set Gu true)).bind fun Tp=>
 (bb dS r8).bind fun Tj=>
 some (.inl (Tj,Tp,())))
 |.inr r=>some r) ((k0:Int),vv,())) (fun r=>Ed aj i (fun k=>N k\/k=k0) r.1):=by
 refine U.loop (fun s=>s.2.1.length=i+1/\s.2.1[i]?=some true/\(s.1=-1\/∃j:Nat,s.1=(j:Int)/\j<aj.length/\iH (e0 aj) k0 j)/\(∀u,u<i->s.2.1[u]?=some true->vv[u]?=some true\/iH (e0 aj) k0 u)/\(∀u,u<i->vv[u]?=some true->s.2.1[u]?=some true)/\(∀u,u<i->iH (e0 aj) k0 u->s.2.1[u]?=some true\/∃j:Nat,s.1=(j:Int)/\iH (e0 aj) j u)/\(∀u p,u<i->p<i->s.2.1[u]?=some true->my (e0 aj) u p->s.2.1[p]?=some true\/s.1=(p:Int))) (fun s=>if s.1=-1 then 0 else 1000-s.1.toNat) ?_ ?_
 ·refine⟨bC.len,bC.top,.inr ⟨k0,rfl,ac,.refl _⟩,fun u _ h=>.inl h,fun u _ h=>h,fun u _ h=>.inr ⟨k0,rfl,h⟩,fun u p aQ ay ao vc=>.inl ?_⟩;obtain⟨k,mS,ga⟩:=(bC.iff u aQ).1 ao;exact(bC.iff p ay).2 ⟨k,mS,ga.trans (.up vc (.refl _))⟩
 rintro⟨r7,m,_⟩ ⟨ah,af,al,J,R,ae,aI⟩;simp only at ah af al J R ae aI;have fP:(∀u,u<i->iH (e0 aj) k0 u->m[u]?=some true)->Ed aj i (fun k=>N k\/k=k0) m:=fun fQ=>by
  refine⟨ah,af,fun u aQ=>⟨fun ao=>?_,?_⟩⟩
  ·rcases J u aQ ao with h|h
   ·obtain⟨k,mS,ga⟩:=(bC.iff u aQ).1 h;exact⟨k,.inl mS,ga⟩
   ·exact⟨k0,.inr rfl,h⟩
  ·rintro⟨k,mS|rfl,ga⟩
   ·exact R u aQ ((bC.iff u aQ).2 ⟨k,mS,ga⟩)
   ·exact fQ u aQ ga
 simp only[U.c8,U.c7,U.au,U.tv,U.sW];rcases al with rfl|⟨j,rfl,kX,nv⟩
 ·refine⟨fun aF=>by simp at aF,fun _=>fP fun u aQ aG=>?_⟩;rcases ae u aQ aG with h|⟨j,al,_⟩
  ·exact h
  ·omega
 refine⟨fun _=>⟨fun oV=>?_,fun oV=>?_⟩,fun aF=>by simp at aF⟩
 ·have oV:j<i:=(by simpa using oV);have CA:j<m.length:=(by omega);simp only[d4];refine⟨⟨by omega,CA⟩,CA,fun l8=>?_,fun Ls=>?_⟩
  ·have W7:j<dS.length:=(by rw[c9.len];exact kX);refine⟨⟨by omega,CA⟩,CA,?_⟩;rw[U.jL];refine⟨W7,?_⟩;have mR:dS[j]?=some dS[j]:=ct W7;have Xi:dS[j]=-1\/∃p:Nat,dS[j]=(p:Int)/\my (e0 aj) j p:=by
    rcases c9.none j _ mR with e|⟨p,e⟩
    ·exact .inl e
    ·exact .inr ⟨p,e,(c9.m5 j p).1 (by rw[mR,e])⟩
   have pL:∀u,(m.set j true)[u]?=some true↔u=j\/m[u]?=some true:=fun u=>by
    by_cases aQ:u=j
    ·subst aQ;simp[nP CA]
    ·rw[pd (by omega)];simp[aQ]
   refine⟨⟨by simp[ah],by rw[pd (by omega)];exact af,?_,fun u aQ ao=>?_,fun u aQ ao=>(pL u).2 (.inr (R u aQ ao)),fun u aQ aG=>?_,fun u p aQ ay ao vc=>?_⟩,?_⟩
   ·rcases Xi with e|⟨p,e,ay⟩
    ·exact .inl e
    ·exact .inr ⟨p,e,(ay.2.1.lt c6).2,nv.trans (.up ay (.refl _))⟩
   ·rcases(pL u).1 ao with rfl|ao
    ·exact .inr nv
    ·exact J u aQ ao
   ·rcases ae u aQ aG with h|⟨oZ,Ld,FI⟩
    ·exact .inl ((pL u).2 (.inr h))
    ·obtain rfl:oZ=j:=(by omega);cases FI with
     |refl=>exact .inl ((pL _).2 (.inl rfl))
     |@up _ p _ ay hv=>
      have:=(c9.m5 oZ p).2 ay;rw[mR] at this;exact .inr ⟨p,ff this,hv⟩
   ·rcases(pL u).1 ao with rfl|ao
    ·have:=(c9.m5 u p).2 vc;rw[mR] at this;exact .inr (ff this)
    ·rcases aI u p aQ ay ao vc with h|h
     ·exact .inl ((pL p).2 (.inr h))
     ·exact .inl ((pL p).2 (.inl (by omega)))
   ·rcases Xi with e|⟨p,e,ay⟩
    ·rw[if_pos e,if_neg (by omega)];omega
    ·have:=ay.1;rw[e,if_neg (by omega),if_neg (by omega)];omega
  ·have W8:m[j]?=some true:=by
    rw[ct CA];simp at Ls;rw[Ls]
   refine fP fun u aQ aG=>?_;rcases ae u aQ aG with h|⟨oZ,Ld,FI⟩
   ·exact h
   ·obtain rfl:oZ=j:=(by omega);have:∀{a b:Nat},iH (e0 aj) a b->b<i->m[a]?=some true->m[b]?=some true:=by
     intro a b h
     induction h with
     |refl=>exact fun _ h=>h
     |@up a p b ay hv aT=>
      intro aa PS;have awH:=hv.le;refine aT aa ?_;rcases aI a p (by have:=ay.1;omega) (by omega) PS ay with h|h
      ·exact h
      ·have:p=oZ:=(by omega);rw[this];exact W8
    exact this FI aQ W8
 ·have oV:i<=j:=(by simpa using oV);refine fP fun u aQ aG=>?_;rcases ae u aQ aG with h|⟨oZ,Ld,FI⟩
  ·exact h
  ·have:=FI.le;omega
open Classical in
theorem ate {aj:List (List Int)} (c6:fK aj) (hc:∀l∈aj,l.length<4611686018427387904) {dS:List Int} (c9:Nk aj dS) {i:Nat} (hi:i<aj.length) (ag:aj.length<=200):Kk ((aj,()),dS,(i:Int),())=some (pX aj i,()):=by
 rw[<-U.eq_iff];unfold Kk;have gK:gv=4294967296:=rfl;have hs:=e0.symm c6;have r4:IntKind.i64.wrap ((i:Int)+1)=((i+1:Nat):Int):=gR (by omega);simp only[r4,U.c8,U.Da,U.tv,U.sW,U.au,d4,U.jL,uu];refine⟨⟨by omega,by omega,by omega⟩,⟨by omega,by omega⟩,by omega,hi,?_⟩;have alB:=hc _ (dt hi);refine U.mono (P:=fun q=>Ed aj i (fun k=>e0 aj i k) q.1) ?_ ?_
 ·refine U.for (i0:=0) aj[i].length (fun k t=>Ed aj i (fun x=>(x:Int)∈aj[i].take k) t.1) rfl ?_ (eL _) ?_ ?_
  ·refine⟨by simp,by rw[nP (by simp)],fun u aQ=>?_⟩;rw[pd (by omega),pc];simp
  ·rintro k ⟨m,_⟩ _ ac bC;simp only at bC;simp only[U.c7,U.c8,U.jL];refine⟨fun _=>⟨ac,?_⟩,fun aF=>by simp at aF;omega⟩;have hr:=(c6.asc i hi).2 _ (dt ac);obtain⟨w,hw⟩:∃w:Nat,aj[i][k]=(w:Int):=⟨aj[i][k].toNat,by omega⟩;rw[hw];refine(ahv c6 c9 hi ag bC (k0:=w) (by omega)).mono ?_;rintro⟨iz,_⟩ Pm;simp only[U.au];refine⟨gR (by omega),?_⟩;have e:(fun x:Nat=>(x:Int)∈aj[i].take k\/x=w)=(fun x:Nat=>(x:Int)∈aj[i].take (k+1)):=by
    funext x;rw[<-q1 ac,hw];apply propext;simp only[fe,fv];constructor<;>rintro(h|h)<;>first|exact .inl h|(right;omega)
   rw[<-e];exact Pm
  ·rintro⟨m,_⟩ bC;simp only[U.c7,U.au];refine⟨fun aF=>by simp at aF,fun _=>?_⟩;rw[uv] at bC;have e:(fun x:Nat=>(x:Int)∈aj[i])=(fun x=>e0 aj i x):=by
    funext x;exact propext ⟨fun h=>⟨hi,h⟩,fun h=>h.2⟩
   rw[<-e];exact bC
 ·rintro⟨m,_⟩ bC;simp only at bC;simp only[U.c8,U.au];have mR:∀u,(aQ:u<m.length)->(m[u]=true↔mv aj u i):=by
   intro u aQ;have ah:=bC.len;rcases ch u i with h|h
   ·have:=bC.iff u h;rw[ct aQ,cI] at this;rw[this,<-aa1 hs h];constructor
    ·exact fun hw=>.inr ⟨h,hw⟩
    ·rintro(e|⟨_,hw⟩)
     ·omega
     ·exact hw
   ·obtain rfl:u=i:=(by omega);have:=bC.top;rw[ct aQ,cI] at this;rw[this];exact⟨fun _=>.inl rfl,fun _=>rfl⟩
  have ah:=bC.len;refine U.for (i0:=0) m.length (fun k t=>t.1=m/\t.2.1=((List.range k).filter fun j=>decide (mv aj j i)).map fun(j:Nat)=>(j:Int)) rfl ⟨rfl,rfl⟩ (eL _) ?_ ?_
  ·rintro k ⟨iz,o,_⟩ _ ac ⟨rfl,aH⟩;simp only at aH ac ah mR;have F2:o.length<=k:=by
    rw[aH,iI];exact eu (kM _ _) (by simp)
   simp only[U.c7,U.c8,U.tv,U.sW,U.au,U.xK,d4];refine⟨fun _=>⟨⟨by omega,ac⟩,ac,fun ao=>⟨?_,gR (by omega),trivial,?_⟩,fun ao=>⟨gR (by omega),trivial,?_⟩⟩,fun aF=>by simp at aF;omega⟩
   ·simp;omega
   ·have:=(mR k ac).1 ao;rw[rj,qg,jS,<-aH];simp[this]
   ·have:¬mv aj k i:=fun h=>(by rw[(mR k ac).2 h] at ao;cases ao);rw[rj,qg,jS,<-aH];simp[this]
  ·rintro⟨iz,o,_⟩ ⟨rfl,aH⟩;simp only at aH;simp only[U.c7,U.au];refine⟨fun aF=>by simp at aF,fun _=>?_⟩;rw[aH];unfold pX;rw[ah]
open Classical in
theorem ahz (aj:List (List Int)) (j k:Nat):mH aj j (k+1)=mH aj j k++(if j<=k/\mv aj j k then[(k:Int)] else[]):=by
 unfold mH;rw[rj,qg,jS];congr 1;by_cases h:j<=k/\mv aj j k
 ·rw[if_pos h];simp[h]
 ·rw[if_neg h];simp only[mA,List.filter_nil];rw[if_neg (by simpa using h)];rfl
theorem acv {aj:List (List Int)} (c6:fK aj) (hc:∀l∈aj,l.length<4611686018427387904) (ag:aj.length<=200):Kj ((aj,()),())=some ((List.range aj.length).map (cT aj),0,()):=by
 classical
 rw[<-U.eq_iff];unfold Kj;have gK:gv=4294967296:=rfl;simp only[U.c8];refine(afR aj hc ag c6).mono ?_;rintro⟨dS,e,_⟩ ⟨aE,c9⟩;simp only at aE c9;subst aE;have nz:=c9.len;simp only[U.c7,U.c8,U.au,U.Da,d4];refine⟨fun h=>by simp at h,fun _=>⟨⟨by omega,by omega,by omega⟩,?_⟩⟩;rw[nz];refine U.for (i0:=0) aj.length (fun i t=>t.1=(List.range aj.length).map fun j=>mH aj j i) rfl ?_ (eL _) ?_ ?_
 ·apply jj;intro k;simp[mH,pc];split<;>simp_all
 ·rintro i ⟨out,_⟩ _ hi aH;simp only at aH;simp only[U.c7,U.c8,ate c6 hc c9 hi ag,U.au];refine⟨fun _=>?_,fun aF=>by simp at aF;omega⟩;have qG:=atd aj i;refine U.mono (P:=fun q=>q.1=(List.range aj.length).map fun j=>mH aj j (i+1)) ?_ ?_
  ·refine U.for (i0:=0) (pX aj i).length (fun k t=>t.2.1=pX aj i/\t.1=(List.range aj.length).map fun j=>mH aj j i++(if(j:Int)∈(pX aj i).take k then[(i:Int)] else[])) rfl ?_ (eL _) ?_ ?_
   ·refine⟨rfl,?_⟩;rw[aH];simp
   ·rintro k ⟨o,r,_⟩ _ ac ⟨hr,jx⟩;simp only at hr jx;subst hr;obtain⟨j,al,oV,_⟩:=aoH (dt ac);have F2:o.length=aj.length:=(by rw[jx];simp);have z7:j<o.length:=(by omega);have n8:(j:Int)∉(pX aj i).take k:=fun ao=>by
     obtain⟨m,tj,mT⟩:=jk.1 ao;simp only[fl] at tj;simp only[D9] at mT;have:=(iX.1 (atc aj i)) m k (by omega) ac (by omega);omega
    have Xf:o[j]=mH aj j i:=(by have:o[j]?=some (mH aj j i):=(by rw[jx,f5,ur (by omega)];simp only[g6];rw[if_neg n8,sK]);rw[ct z7] at this;exact ff this);have mP:=Vc aj j i;simp only[U.c7,U.c8,U.tv,U.sW,U.au,U.xK,d4,al,wG,Bool.and_self,U.vH];refine⟨fun _=>⟨⟨by omega,ac⟩,ac,⟨by omega,z7⟩,z7,?_,⟨by omega,z7⟩,fun _=>⟨z7,z7,gR (by omega),trivial,?_⟩,fun h=>by cases h⟩,fun aF=>by simp at aF;omega⟩
    ·rw[Xf];simp;omega
    ·apply jj;intro u;rw[wD];by_cases aQ:j=u
     ·subst aQ;rw[if_pos rfl,if_pos z7,f5,ur (show j<aj.length by omega)];simp only[g6];rw[Xf,if_pos];rw[<-q1 ac,al];simp
     ·rw[if_neg aQ,jx,f5,f5];rcases ch u aj.length with h|h
      ·rw[ur h];simp only[g6];congr 2;rw[<-q1 ac,al];have:((u:Int)=(j:Int))↔False:=iff_of_false (by omega) id;simp only[fe,fv,this,or_false]
      ·rw[gy (by simpa using h)];rfl
   ·rintro⟨o,r,_⟩ ⟨hr,jx⟩;simp only at hr jx;subst hr;simp only[U.c7,U.au];refine⟨fun aF=>by simp at aF,fun _=>?_⟩;rw[jx,uv];refine ke fun j _=>?_;rw[ahz];congr 1;by_cases h:j<=i/\mv aj j i
    ·rw[if_pos h,if_pos (YO.2 h)]
    ·rw[if_neg h,if_neg (fun ao=>h (YO.1 ao))]
  ·rintro⟨o,_⟩ jx;exact⟨gR (by omega),jx⟩
 ·rintro⟨out,_⟩ aH;simp only at aH;simp only[U.c7,U.au];refine⟨fun aF=>by simp at aF,fun _=>?_⟩;rw[aH];rfl
end
theorem TB (l:List Int) (v:Int) (ah:l.length<4611686018427387904):EX (l,v,())=some (decide (v∈l),()):=by
 rw[<-U.eq_iff];unfold EX;simp only[U.c8];refine U.for (i0:=0) l.length (fun i _=>v∉l.take i) rfl (by simp) (eL _) ?_ ?_
 ·rintro i _ _ hi cK;simp only[U.c7,U.c8,U.au,U.jL];refine⟨fun _=>⟨hi,fun aE=>?_,fun cL=>⟨gR (by omega),?_⟩⟩,fun aF=>by simp at aF;omega⟩
  ·have aE:l[i]=v:=(by simpa using aE);have:v∈l:=aE▸dt hi;simp[this]
  ·rw[<-q1 hi,fe];have cL:¬l[i]=v:=(by simpa using cL);rintro(h|h)
   ·exact cK h
   ·exact cL (fv.1 h).symm
 ·rintro _ cK;simp only[U.c7,U.au];refine⟨fun aF=>by simp at aF,fun _=>?_⟩;rw[uv] at cK;simp[cK]
def gA (t:List (List Bool)) (v w:Nat):Bool:=(t.getD v []).getD w false
def oi (t:List (List Bool)) (v k:Nat):List Int:=((List.range k).filter fun w=>v !=w&&(gA t v w||gA t w v)).map fun(w:Nat)=>(w:Int)
def kl (t:List (List Bool)):List (List Int):=(List.range t.length).map fun v=>oi t v t.length
theorem Yv (t:List (List Bool)) (v k:Nat):(oi t v k).length<=k:=by unfold oi;rw[iI];exact eu (kM _ _) (by simp)
theorem Yw (t:List (List Bool)) (v k:Nat):oi t v (k+1)=oi t v k++(if(v !=k&&(gA t v k||gA t k v))=true then[(k:Int)] else[]):=by
 unfold oi;rw[rj,qg,jS];congr 1;by_cases h:(v !=k&&(gA t v k||gA t k v))=true
 ·rw[if_pos h];simp only[mA,h,List.filter_nil];rfl
 ·rw[if_neg h];simp only[mA,List.filter_nil];rw[if_neg h];rfl
theorem BR {t:List (List Bool)} {v w:Nat} (hv:v<t.length) (hw:w<t[v].length):gA t v w=t[v][w]:=by unfold gA;simp[List.getD,hv,hw]
theorem Ty (t:List (List Bool)) (af:∀l∈t,l.length=t.length) (ag:t.length<=4294967296):E9 (t,())=some ((kl t,()),()):=by
 rw[<-U.eq_iff];unfold E9;have gK:gv=4294967296:=rfl;simp only[U.c8];refine U.mono (P:=fun q=>q.2.1.1=kl t) ?_ ?_
 ·refine U.for (i0:=0) t.length (fun v s=>s.2.1.1=(List.range v).map fun v=>oi t v t.length) rfl rfl (eL _) ?_ ?_
  ·rintro v ⟨s,g,_⟩ _ hv aD;simp only at aD;simp only[U.c7,U.c8,U.au];refine⟨fun _=>?_,fun aF=>by simp at aF;omega⟩;refine U.mono (P:=fun q=>q.2.1=g/\q.2.2.1=oi t v t.length) ?_ ?_
   ·refine U.for (i0:=0) t.length (fun w q=>q.2.1=g/\q.2.2.1=oi t v w) rfl ⟨rfl,rfl⟩ (eL _) ?_ ?_
    ·rintro w ⟨s',ej,l,_⟩ _ hw ⟨j2,ah⟩;simp only at ah j2;subst j2;have awn:=af _ (dt hv);have awo:=af _ (dt hw);simp only[U.c7 (b:=decide _),U.c8 (x:=Option.bind _ _)];refine⟨fun _=>?_,fun aF=>by simp at aF;omega⟩;rw[U.c8];refine U.mono (P:=fun q=>q=((v !=w&&(gA t v w||gA t w v)),s',ej,l,())) ?_ ?_
     ·simp only[U.c7,U.c8,U.au,U.jL];rw[BR hv (by omega),BR hw (by omega)];refine⟨fun h=>⟨hv,by omega,fun R=>⟨hw,by omega,?_⟩,fun R=>?_⟩,fun h=>?_⟩
      ·have h:v≠w:=(by simp at h;omega);have R:t[v][w]=false:=(by simpa using R);simp[h,R]
      ·have h:v≠w:=(by simp at h;omega);have R:t[v][w]=true:=(by simpa using R);simp[h,R]
      ·have h:v=w:=(by simp at h;omega);simp[h]
     ·rintro q rfl;have xu:=Yv t v w;simp only[U.c7,U.c8,U.au,U.xK];refine⟨fun h=>⟨by rw[ah];simp;omega,gR (by omega),trivial,?_⟩,fun h=>⟨gR (by omega),trivial,?_⟩⟩
      ·rw[Yw,if_pos h,ah]
      ·rw[Yw,if_neg (by rw[h];simp),ah,sK]
    ·rintro⟨s',ej,l,_⟩ ⟨j2,ah⟩;simp only at ah j2;subst j2;simp only[U.c7,U.au];exact⟨fun aF=>by simp at aF,fun _=>⟨trivial,ah⟩⟩
   ·rintro⟨s',ej,l,_⟩ ⟨j2,ah⟩;simp only at ah j2;subst j2;simp only[U.c8,U.au,U.xK];refine⟨by rw[aD];simp;omega,gR (by omega),?_⟩;rw[aD,ah,rj,jS];rfl
  ·rintro⟨s,g,_⟩ aD;simp only at aD;simp only[U.c7,U.au];exact⟨fun aF=>by simp at aF,fun _=>aD⟩
 ·rintro⟨s,⟨g,_⟩,_⟩ aD;simp only at aD;simp only[U.au];rw[aD]
theorem Q5 {t:List (List Bool)} {v k w:Nat}:(w:Int)∈oi t v k↔w<k/\v≠w/\(gA t v w||gA t w v)=true:=by
 unfold oi;simp only[dj,hX,jl,bM,bne_iff_ne];constructor
 ·rintro⟨a,⟨J,R⟩,ae⟩;have:a=w:=(by omega);subst this;exact⟨J,R⟩
 ·exact fun⟨J,R⟩=>⟨w,⟨J,R⟩,rfl⟩
theorem V6 (t:List (List Bool)):fK (kl t):=by
 have ah:(kl t).length=t.length:=(by simp[kl]);have aD:∀v,(h:v<(kl t).length)->(kl t)[v]=oi t v t.length:=fun v h=>(by simp[kl]);refine⟨fun v h=>?_,fun v h=>?_,fun v h w hw ao=>?_⟩
 ·rw[aD v h,ah];refine⟨MS _ _,fun x ab=>?_⟩;unfold oi at ab;simp only[dj,hX,jl] at ab;obtain⟨a,⟨J,_⟩,rfl⟩:=ab;omega
 ·rw[aD v h,Q5];exact fun ax=>ax.2.1 rfl
 ·rw[aD v h,Q5] at ao;rw[aD w hw,Q5];exact⟨by omega,ao.2.1.symm,by rw[Bool.or_comm];exact ao.2.2⟩
theorem ajN (t:List (List Bool)):(kl t).length=t.length:=by simp[kl]
theorem ajO (t:List (List Bool)):∀l∈kl t,l.length<=t.length:=by intro l ah;unfold kl at ah;simp only[dj,jl] at ah;obtain⟨v,_,rfl⟩:=ah;exact Yv _ _ _
theorem l1 {α:Type} {xs:List α} {i:Nat} {y:α} (h:xs[i]?=some y):bb xs (i:Int)=some y:=by unfold bb;rw[if_pos (by omega),d4,h]
theorem Ns (aj:List (List Int)):fK aj↔∀v,(h:v<aj.length)->aj[v].Pairwise (· < ·)/\∀k,(ac:k<aj[v].length)->(0<=aj[v][k]/\aj[v][k]<aj.length)/\aj[v][k]≠(v:Int)/\(v:Int)∈aj.getD (aj[v][k]).toNat []:=by
 constructor
 ·rintro⟨J,R,ae⟩ v hv;refine⟨(J v hv).1,fun k ac=>?_⟩;have hr:=(J v hv).2 _ (dt ac);refine⟨hr,fun e=>R v hv (e▸dt ac),?_⟩;have hw:(aj[v][k]).toNat<aj.length:=(by omega);have:=ae v hv _ hw (by rw[Int.toNat_of_nonneg hr.1];exact dt ac);rw[List.getD,ct hw];exact this
 ·intro h;refine⟨fun v hv=>⟨(h v hv).1,fun x ab=>?_⟩,fun v hv ao=>?_,fun v hv w hw ao=>?_⟩
  ·obtain⟨k,ac,rfl⟩:=jk.1 ab;exact((h v hv).2 k ac).1
  ·obtain⟨k,ac,e⟩:=jk.1 ao;exact((h v hv).2 k ac).2.1 e
  ·obtain⟨k,ac,e⟩:=jk.1 ao;have:=((h v hv).2 k ac).2.2;rw[e,d4,List.getD,ct hw] at this;exact this
theorem Sp (aj:List (List Int)) (hc:∀l∈aj,l.length<4611686018427387904):Cf ((aj,()),())=some (jJ aj,()):=by
 classical
 rw[<-U.eq_iff];unfold Cf;simp only[U.c7,U.au,U.c8];refine⟨fun h=>?_,fun h=>?_⟩
 ·have:200<aj.length:=(by simp at h;omega);simp[jJ,this]
 have ag:¬200<aj.length:=(by simp at h;omega);refine U.mono (P:=fun q=>(q=.inl ()/\fK aj)\/(q=.inr (1,())/\¬fK aj)) ?_ ?_
 rotate_left
 ·rintro _ (⟨rfl,hv⟩|⟨rfl,hv⟩)
  ·simp only[U.au];simp[jJ,ag,hv]
  ·simp only[U.au];simp[jJ,ag,hv]
 refine U.for (i0:=0) aj.length (fun i _=>∀v,(h:v<aj.length)->v<i->aj[v].Pairwise (· < ·)/\∀k,(ac:k<aj[v].length)->(0<=aj[v][k]/\aj[v][k]<aj.length)/\aj[v][k]≠(v:Int)/\(v:Int)∈aj.getD (aj[v][k]).toNat []) rfl (fun v _ h=>by omega) (eL _) ?_ ?_
 ·rintro v _ _ hv cK;have qH:=hc _ (dt hv);simp only[U.c7,U.au,U.c8,U.jL];refine⟨fun _=>⟨hv,?_⟩,fun aF=>by simp at aF;omega⟩;rw[aco _ qH];simp only[U.au];refine⟨fun aG=>.inr ⟨trivial,fun c6=>?_⟩,fun aG=>?_⟩
  ·have:=(c6.asc v hv).1;simp[this] at aG
  have aG:aj[v].Pairwise (· < ·):=(by simpa using aG);refine U.mono (P:=fun q=>(q=.inl ()/\∀k,(ac:k<aj[v].length)->(0<=aj[v][k]/\aj[v][k]<aj.length)/\aj[v][k]≠(v:Int)/\(v:Int)∈aj.getD (aj[v][k]).toNat [])\/(q=.inr (.inr (.inr (1,())))/\¬fK aj)) ?_ ?_
  rotate_left
  ·rintro _ (⟨rfl,ai⟩|⟨rfl,ai⟩)
   ·simp only[U.au];refine⟨gR (by omega),fun u aQ awR=>?_⟩;rcases ch u v with h|h
    ·exact cK u aQ h
    ·obtain rfl:u=v:=(by omega);exact⟨aG,ai⟩
   ·simp only[U.au];exact .inr ⟨trivial,ai⟩
  refine U.for (i0:=0) aj[v].length (fun i _=>∀k,(ac:k<aj[v].length)->k<i->(0<=aj[v][k]/\aj[v][k]<aj.length)/\aj[v][k]≠(v:Int)/\(v:Int)∈aj.getD (aj[v][k]).toNat []) rfl (fun v _ h=>by omega) (eL _) ?_ ?_
  ·rintro k _ _ ac zU;have pA:¬((0<=aj[v][k]/\aj[v][k]<aj.length)/\aj[v][k]≠(v:Int)/\(v:Int)∈aj.getD (aj[v][k]).toNat [])->¬fK aj:=fun h c6=>h (((Ns aj).1 c6 v hv).2 k ac);simp only[U.c7,U.au,U.c8,U.jL];refine⟨hv,fun _=>⟨hv,ac,fun J=>⟨fun R=>⟨fun ae=>?_,fun ae=>?_⟩,fun R=>?_⟩,fun J=>?_⟩,fun aF=>by simp at aF;omega⟩
   ·have hr:0<=aj[v][k]/\aj[v][k]<(aj.length:Int):=(by simp at J R;omega);have cL:aj[v][k]≠(v:Int):=(by simpa using ae);rw[U.We];refine⟨by omega,hr.1,?_⟩;rw[TB _ _ (hc _ (dt _))];have aD:aj.getD (aj[v][k]).toNat []=aj[(aj[v][k]).toNat]'(by omega):=by
     rw[List.getD,ct (by omega)];rfl
    simp only[U.au];refine⟨fun aI=>.inr ⟨trivial,pA ?_⟩,fun aI=>⟨gR (by omega),fun cN ky CB=>?_⟩⟩
    ·rintro⟨_,_,ao⟩;rw[aD] at ao;simp[ao] at aI
    ·rcases ch cN k with h|h
     ·exact zU cN ky h
     ·obtain rfl:cN=k:=(by omega);refine⟨hr,cL,?_⟩;rw[aD];simpa using aI
   ·refine .inr ⟨trivial,pA (fun ax=>ax.2.1 ?_)⟩;simpa using ae
   ·refine .inr ⟨trivial,pA (fun ax=>?_)⟩;simp at R;omega
   ·refine .inr ⟨trivial,pA (fun ax=>?_)⟩;simp at J;omega
  ·rintro _ zU;simp only[U.c7,U.au,U.c8,U.jL];exact⟨hv,fun aF=>by simp at aF,fun _=>.inl ⟨trivial,fun k ac=>zU k ac ac⟩⟩
 ·rintro _ cK;simp only[U.c7,U.au];exact⟨fun aF=>by simp at aF,fun _=>.inl ⟨trivial,(Ns aj).2 fun v hv=>cK v hv hv⟩⟩
theorem afU (l:List Int) (n:Int) (ah:l.length<4611686018427387904):Kd (l,n,())=some (decide (∀x∈l,0<=x/\x<n),()):=by
 rw[<-U.eq_iff];unfold Kd;simp only[U.c8];refine U.mono (P:=fun q=>(q=.inl ()/\∀x∈l,0<=x/\x<n)\/(q=.inr (false,())/\¬∀x∈l,0<=x/\x<n)) ?_ ?_
 ·refine U.for (i0:=0) l.length (fun i _=>∀k,(h:k<l.length)->k<i->0<=l[k]/\l[k]<n) rfl (fun k _ h=>by omega) (eL _) ?_ ?_
  ·rintro i _ _ hi cK;have pA:¬(0<=l[i]/\l[i]<n)->¬∀x∈l,0<=x/\x<n:=fun h ax=>h (ax _ (dt hi));simp only[U.c7,U.c8,U.au,U.jL];refine⟨fun _=>⟨hi,fun J=>⟨hi,fun R=>.inr ⟨trivial,pA (fun h=>?_)⟩,fun R=>⟨gR (by omega),fun k ac oW=>?_⟩⟩,fun J=>.inr ⟨trivial,pA (fun h=>?_)⟩⟩,fun aF=>by simp at aF;omega⟩
   ·simp at R;omega
   ·rcases ch k i with h|h
    ·exact cK k ac h
    ·obtain rfl:k=i:=(by omega);simp at J R;omega
   ·simp at J;omega
  ·rintro _ cK;simp only[U.c7,U.au];refine⟨fun aF=>by simp at aF,fun _=>.inl ⟨trivial,fun x ab=>?_⟩⟩;obtain⟨k,ac,rfl⟩:=jk.1 ab;exact cK k ac ac
 ·rintro _ (⟨rfl,h⟩|⟨rfl,h⟩)
  ·simp only[U.au];rw[decide_eq_true h]
  ·simp only[U.au];rw[decide_eq_false h]
theorem Zh {l:List Int}:l.Nodup↔∀i,(h:i<l.length)->l[i]∉l.take i:=by
 unfold List.Nodup;rw[iX];constructor
 ·intro h i hi ao;obtain⟨k,ac,e⟩:=jk.1 ao;simp only[fl] at ac;simp only[D9] at e;exact h k i (by omega) hi (by omega) e
 ·intro h i j hi al dz e;exact h j al (jk.2 ⟨i,by simp;omega,by simp[e]⟩)
theorem af0 (l:List Int) (ah:l.length<4611686018427387904):Ke (l,())=some (decide (¬l.Nodup),()):=by
 rw[<-U.eq_iff];unfold Ke;simp only[U.c8];refine U.mono (P:=fun q=>(q=.inl ()/\l.Nodup)\/(q=.inr (true,())/\¬l.Nodup)) ?_ ?_
 ·refine U.for (i0:=0) l.length (fun i _=>∀k,(h:k<l.length)->k<i->l[k]∉l.take k) rfl (fun k _ h=>by omega) (eL _) ?_ ?_
  ·rintro i _ _ hi cK;have aC:hp (i:Int)=some i:=(by unfold hp;rw[if_pos (by omega),d4]);have aV:ia 0 i l.length=some ():=(by unfold ia;rw[if_pos (by omega)]);simp only[U.c7,U.c8,U.au,U.jL,aC,aV,br,g6,rf];refine⟨fun _=>⟨hi,?_⟩,fun aF=>by simp at aF;omega⟩;rw[TB _ _ (by rw[fl];omega)];simp only[U.au];refine⟨fun h=>.inr ⟨trivial,fun aN=>?_⟩,fun h=>⟨gR (by omega),fun k ac oW=>?_⟩⟩
   ·exact Zh.1 aN i hi (of_decide_eq_true h)
   ·rcases ch k i with R|R
    ·exact cK k ac R
    ·obtain rfl:k=i:=(by omega);exact of_decide_eq_false h
  ·rintro _ cK;simp only[U.c7,U.au];exact⟨fun aF=>by simp at aF,fun _=>.inl ⟨trivial,Zh.2 fun k ac=>cK k ac ac⟩⟩
 ·rintro _ (⟨rfl,h⟩|⟨rfl,h⟩)
  ·simp only[U.au];rw[decide_eq_false (fun ax=>ax h)]
  ·simp only[U.au];rw[decide_eq_true h]
def q0 (aj:List (List Int)):List (List Bool):=(List.range aj.length).map fun v=>(List.range aj.length).map fun(w:Nat)=>decide ((w:Int)∈aj.getD v [])
theorem SX (aj:List (List Int)):(q0 aj).length=aj.length:=by simp[q0]
theorem abz {aj:List (List Int)} {v:Nat} (hv:v<aj.length):(q0 aj)[v]?=some ((List.range aj.length).map fun(w:Nat)=>decide ((w:Int)∈aj[v])):=by simp[q0,hv,List.getD]
theorem TQ {aj:List (List Int)} (hc:∀l∈aj,l.length<4611686018427387904) (ag:aj.length<=200) (hr:∀v,(h:v<aj.length)->∀x∈aj[v],0<=x/\x<(aj.length:Int)):Fb ((aj,()),())=some (q0 aj,()):=by
 rw[<-U.eq_iff];unfold Fb;have gK:gv=4294967296:=rfl;simp only[U.c8];refine U.mono (P:=fun q=>q.1=q0 aj) ?_ (by rintro⟨o,_⟩ h;simp only at h;simp only[U.au];rw[h]);refine U.for (i0:=0) aj.length (fun i t=>t.1=(q0 aj).take i) rfl (by simp) (eL _) ?_ ?_
 ·rintro v ⟨out,_⟩ _ hv aH;simp only at aH;have qH:=hc _ (dt hv);simp only[U.c7,U.c8,U.Da,d4];refine⟨fun _=>⟨⟨by omega,by omega,by omega⟩,?_⟩,fun aF=>by simp at aF;omega⟩;refine U.mono (P:=fun q=>q.1=out/\q.2.1=(List.range aj.length).map fun(w:Nat)=>decide ((w:Int)∈aj[v])) ?_ ?_
  ·refine U.for (i0:=0) aj[v].length (fun k t=>t.1=out/\t.2.1=(List.range aj.length).map fun(w:Nat)=>decide ((w:Int)∈aj[v].take k)) rfl ⟨rfl,?_⟩ (eL _) ?_ ?_
   ·apply jj;intro k;simp[pc];split<;>simp_all
   ·rintro k ⟨o,row,_⟩ _ ac ⟨J,R⟩;simp only at J R;have ab:=hr v hv _ (dt ac);have qG:row.length=aj.length:=(by rw[R];simp);simp only[U.c7,U.c8,U.jL,U.tv,U.sW,U.au];refine⟨hv,fun _=>⟨hv,ac,⟨ab.1,by omega⟩,by omega,gR (by omega),J,?_⟩,fun aF=>by simp at aF;omega⟩;apply jj;intro u;rw[wD,R,f5,f5];rcases ch u aj.length with h|h
    ·rw[ur h];simp only[g6,<-q1 ac,fe,fv,iI,yM];by_cases aQ:(aj[v][k]).toNat=u
     ·rw[if_pos aQ,if_pos (by omega)];have:(u:Int)=aj[v][k]:=(by omega);simp[this]
     ·rw[if_neg aQ];have:¬(u:Int)=aj[v][k]:=(by omega);simp[this]
    ·rw[if_neg (by omega),gy (by simpa using h)];rfl
   ·rintro⟨o,row,_⟩ ⟨J,R⟩;simp only at J R;simp only[U.c7,U.c8,U.jL,U.au];refine⟨hv,fun aF=>by simp at aF,fun _=>⟨J,?_⟩⟩;rw[R,uv]
  ·rintro⟨o,row,_⟩ ⟨J,R⟩;simp only at J R;subst J;simp only[U.c8,U.xK,U.au];refine⟨by rw[aH];simp;omega,gR (by omega),?_⟩;rw[aH,R];have:=abz hv;rw[nR,this];rfl
 ·rintro⟨out,_⟩ aH;simp only at aH;simp only[U.c7,U.au];refine⟨fun aF=>by simp at aF,fun _=>?_⟩;rw[aH,<-SX,uv]
theorem VD (n:Nat) (ag:n<=4294967296):Fc ((n:Int),())=some (List.replicate n (List.replicate n false),()):=by
 rw[<-U.eq_iff];unfold Fc;have gK:gv=4294967296:=rfl;simp only[U.c8];refine U.mono (P:=fun q=>q.1=List.replicate n (List.replicate n false)) ?_ (by rintro⟨o,_⟩ h;simp only at h;simp only[U.au];rw[h]);refine U.for (i0:=0) n (fun i s=>s.1=List.replicate i (List.replicate n false)) rfl rfl (eL _) ?_ ?_
 ·rintro i ⟨t,_⟩ _ hi af;simp only at af;simp only[U.c7,U.c8,U.au,U.Da,U.xK,d4];refine⟨fun _=>⟨⟨by omega,by omega,by omega⟩,by rw[af];simp;omega,gR (by omega),?_⟩,fun aF=>by simp at aF;omega⟩;rw[af,List.replicate_succ']
 ·rintro⟨t,_⟩ af;simp only[U.c7,U.au];exact⟨fun aF=>by simp at aF,fun _=>af⟩
section
def bA {α:Type} (n:Nat) (f:Nat->α):List α:=(List.range n).map f
def fZ {α:Type} (f:Nat->α) (i:Nat) (v:α):Nat->α:=fun j=>if j=i then v else f j
section
variable {α aR rc:Type}
theorem p6 (f:Nat->α) (i:Nat) (v:α):fZ f i v i=v:=if_pos rfl
theorem p5 (f:Nat->α) {i j:Nat} (v:α) (h:j≠i):fZ f i v j=f j:=if_neg h
theorem d0 (n:Nat) (f:Nat->α):(bA n f).length=n:=by simp[bA]
theorem zK (n:Nat) (f:Nat->α) (i:Nat):(bA n f)[i]?=if i<n then some (f i) else none:=by
 unfold bA;rw[f5];rcases ch i n with h|h
 ·rw[ur h,if_pos h];rfl
 ·rw[gy (by simpa using h),if_neg (by omega)];rfl
theorem Ck {n:Nat} {f:Nat->α} {i:Nat} (h:i<n):(bA n f)[i]?=some (f i):=by rw[zK,if_pos h]
theorem l0 {n:Nat} {f:Nat->α} {i:Nat} (h:i<(bA n f).length):(bA n f)[i]=f i:=by simp[bA]
theorem gB {n:Nat} {f g:Nat->α} (h:∀i,i<n->f i=g i):bA n f=bA n g:=ke fun i hi=>h i (jl.1 hi)
theorem VR (f:Nat->α):bA 0 f=[]:=rfl
theorem zL (n:Nat) (f:Nat->α):bA (n+1) f=bA n f++[f n]:=by simp[bA,rj]
theorem px (n:Nat) (x:α):List.replicate n x=bA n fun _=>x:=by apply jj;intro i;rw[pc,zK]
theorem ls {n:Nat} {f:Nat->α} {i:Nat} (v:α):(bA n f).set i v=bA n (fZ f i v):=by
 apply jj;intro j;rw[wD,zK,zK,d0];unfold fZ;by_cases h:i=j
 ·subst h;simp
 ·have a2:¬j=i:=fun e=>h (Eq.symm e);simp only[if_neg h,if_neg a2]
theorem aju (l:List α) (f:Nat->α) (h:∀i,(hi:i<l.length)->l[i]=f i):l=bA l.length f:=by
 apply jj;intro i;rw[zK];split
 ·rename_i hi;rw[ct hi,h i hi]
 ·rename_i hi;exact gy (by omega)
theorem ajv (n k:Nat) (f:Nat->α) (h:k<=n):(bA n f).take k=bA k f:=by
 apply jj;intro i;rw[yL,zK,zK];by_cases hi:i<k
 ·rw[if_pos hi,if_pos hi,if_pos (by omega)]
 ·rw[if_neg hi,if_neg hi]
theorem iR {n i:Nat} (h:i<n):cV n (i:Int)=some i:=by unfold cV;rw[if_pos ⟨by omega,by simpa using h⟩];simp
theorem uB {xs:List α} {k:Nat} {v:α} {f:α->Option aR} (h:xs[k]?=some v):cy xs k f=f v:=by unfold cy;rw[h]
theorem kj {n k:Nat} {f:Nat->α} {g:α->Option aR} (h:k<n):cy (bA n f) k g=g (f k):=uB (Ck h)
theorem Wd {n k:Nat} {f:Nat->α} (h:k<n):bb (bA n f) (k:Int)=some (f k):=l1 (Ck h)
theorem fD {n:Nat} (h:n<=4294967296):dA n=some ():=if_pos h
theorem lE {l:Nat} (h:l<=4294967296):gG (l:Int) (l:Int)=some l:=by unfold gG;rw[if_pos ⟨by omega,by omega,by have:gv=4294967296:=rfl;omega⟩];simp
theorem G5 {i:Nat}:hp (i:Int)=some i:=by unfold hp;rw[if_pos (by omega)];simp
theorem LP {a b n:Nat} (h:a<=b/\b<=n):ia a b n=some ():=if_pos h
theorem asd {n:Nat} (h:0<n):Mo n=some ():=rfl
theorem e5 (a b:Int):(a==b)=decide (a=b):=by by_cases h:a=b<;>simp[h]
theorem ew (a b:Int):(a !=b)=!decide (a=b):=by by_cases h:a=b<;>simp[h]
theorem bc {p:Prop} [Decidable p] (h:p):decide p=true:=decide_eq_true h
theorem a5 {p:Prop} [Decidable p] (h:¬p):decide p=false:=decide_eq_false h
theorem dh {b:Bool} {x y:α} (h:b=true):(bif b then x else y)=x:=by rw[h];rfl
theorem df {b:Bool} {x y:α} (h:b=false):(bif b then x else y)=y:=by rw[h];rfl
theorem cB {p:Prop} [Decidable p] {x y:α}:(bif decide p then x else y)=if p then x else y:=by by_cases h:p<;>simp[h]
theorem Ve {p:Prop} [Decidable p] {x y:α}:(bif decide p==true then x else y)=if p then x else y:=by by_cases h:p<;>simp[h]
theorem ahI {p:Prop} [Decidable p] {x y:α}:(bif decide p==false then x else y)=if p then y else x:=by by_cases h:p<;>simp[h]
theorem au9 {n:Nat} (h:n<9223372036854775808):IntKind.i64.wrap (n:Int)=(n:Int):=wrap64 (by omega) (by omega)
theorem acb {a:Nat} (aa:1<=a) (h:a<9223372036854775808):IntKind.i64.wrap ((a:Int)-1)=((a-1:Nat):Int):=by rw[wrap64 (by omega) (by omega)];omega
theorem yt {a:Nat} (h:a+1<9223372036854775808):IntKind.i64.wrap ((a:Int)+1)=((a+1:Nat):Int):=by rw[wrap64 (by omega) (by omega)];omega
end
theorem U.of_eq {α:Type} {x:Option α} {y:α} {Q:α->Prop} (h:x=some y) (ai:Q y):U x Q:=⟨y,h,ai⟩
theorem U.bP {α aR:Type} {x:Option α} {f:α->Option aR} {P:α->Prop} {Q:aR->Prop} (h:U x P) (aF:∀y,P y->U (f y) Q):U (x.bind f) Q:=
 U.c8.2 (h.mono aF)
theorem U.ite {α:Type} {p:Prop} [Decidable p] {x y:Option α} {Q:α->Prop} (J:p->U x Q) (R:¬p->U y Q):U (if p then x else y) Q:=by
 by_cases h:p
 ·rw[if_pos h];exact J h
 ·rw[if_neg h];exact R h
theorem aP {α aR:Type} {x:Option α} {k:α->Option aR} {y:α} {r:Option aR} (h:x=some y) (R:k y=r):x.bind k=r:=by rw[h];exact R
theorem GO {τ ρ:Type} {f:Int×τ->Option ((Int×τ)⊕ρ)} {r:ρ} {Gm:Int} {t0:τ} (n:Nat) (I:Nat->τ) (i0:Nat) (al:Gm=(i0:Int)) (af:t0=I i0) (hi:i0<=n) (ve:∀i,i0<=i->i<n->f ((i:Int),I i)=some (.inl (((i+1:Nat):Int),I (i+1)))) (u2:f ((n:Int),I n)=some (.inr r)):loop f (Gm,t0)=some r:=by
 subst al af;rw[<-U.eq_iff];refine U.for n (fun i t=>t=I i) rfl rfl hi ?_ ?_
 ·rintro i _ aU J rfl;rw[ve i aU J];exact U.au.2 ⟨rfl,rfl⟩
 ·rintro _ rfl;rw[u2];exact U.au.2 rfl
theorem anP {f:Int×Unit->Option axs} (n:Nat) (P:Nat->Prop) (ve:∀i,i<n->f ((i:Int),())=some (open Classical in if P i then .inl (((i+1:Nat):Int),()) else .inr (.inr ((i:Int),())))) (u2:f ((n:Int),())=some (.inr (.inl ()))):U (loop f (0,())) (fun q=>match q with|.inl _=>∀i,i<n->P i|.inr r=>0<=r.1/\¬∀i,i<n->P i):=by
 classical
 refine U.for n (fun i _=>∀j,j<i->P j) (i0:=0) rfl (fun j h=>by omega) (eL _) ?_ ?_
 ·rintro i ⟨⟩ _ J cK;rw[ve i J];by_cases ay:P i
  ·rw[if_pos ay];refine U.au.2 ⟨rfl,fun j ae=>?_⟩;rcases ch j i with h|h
   ·exact cK j h
   ·obtain rfl:j=i:=(by omega);exact ay
  ·rw[if_neg ay];exact U.au.2 ⟨by show(0:Int)<=(i:Int);omega,fun h=>ay (h i J)⟩
 ·rintro⟨⟩ cK;rw[u2];exact U.au.2 cK
end
theorem Te (x:Int):IntKind.u32.wrap x=x %4294967296:=by unfold IntKind.wrap;exact if_neg (show¬(false&&decide (x %4294967296>=(2147483648:Int)))=true by simp)
theorem HU (x:Int):IntKind.u64.wrap x=x %18446744073709551616:=by unfold IntKind.wrap;exact if_neg (show¬(false&&decide (x %18446744073709551616>=(9223372036854775808:Int)))=true by simp)
theorem Na {x:Int} (J:0<=x) (R:x<18446744073709551616):IntKind.u64.wrap x=x:=by rw[HU];omega
theorem Tf {x:Int} (J:0<=x) (R:x<4294967296):IntKind.u32.wrap x=x:=by rw[Te];omega
theorem IT {x:Nat} (ab:x<18446744073709551616):(BitVec.ofInt 64 (x:Int)).toNat=x:=by rw[BitVec.ofInt_natCast,BitVec.toNat_ofNat];exact Nat.mod_eq_of_lt ab
theorem IS {x:Nat} (ab:x<4294967296):(BitVec.ofInt 32 (x:Int)).toNat=x:=by rw[BitVec.ofInt_natCast,BitVec.toNat_ofNat];exact Nat.mod_eq_of_lt ab
theorem Ud {x y:Nat} (ab:x<18446744073709551616) (aB:y<18446744073709551616):eg .u64 (x:Int) (y:Int)=((x&&&y:Nat):Int):=by have h:((BitVec.ofInt 64 (x:Int))&&&(BitVec.ofInt 64 (y:Int))).toNat=x&&&y:=(by rw[BitVec.toNat_and,IT ab,IT aB]);have R:x&&&y<=x:=Nat.and_le_left;unfold eg;rw[show IntKind.u64.bits=64 from rfl,h];exact Na (by omega) (by omega)
theorem Uc {x y:Nat} (ab:x<4294967296) (aB:y<4294967296):eg .u32 (x:Int) (y:Int)=((x&&&y:Nat):Int):=by have h:((BitVec.ofInt 32 (x:Int))&&&(BitVec.ofInt 32 (y:Int))).toNat=x&&&y:=(by rw[BitVec.toNat_and,IS ab,IS aB]);have R:x&&&y<=x:=Nat.and_le_left;unfold eg;rw[show IntKind.u32.bits=32 from rfl,h];exact Tf (by omega) (by omega)
theorem arE {x y:Nat} (ab:x<18446744073709551616) (aB:y<18446744073709551616):fr .u64 (x:Int) (y:Int)=((x|||y:Nat):Int):=by have h:(BitVec.ofInt 64 (x:Int)|||BitVec.ofInt 64 (y:Int)).toNat=x|||y:=(by rw[BitVec.toNat_or,IT ab,IT aB]);have R:x|||y<2^64:=Nat.or_lt_two_pow ab aB;unfold fr;rw[show IntKind.u64.bits=64 from rfl,h];exact Na (by omega) (by omega)
theorem arD {x y:Nat} (ab:x<4294967296) (aB:y<4294967296):fr .u32 (x:Int) (y:Int)=((x|||y:Nat):Int):=by have h:(BitVec.ofInt 32 (x:Int)|||BitVec.ofInt 32 (y:Int)).toNat=x|||y:=(by rw[BitVec.toNat_or,IS ab,IS aB]);have R:x|||y<2^32:=Nat.or_lt_two_pow ab aB;unfold fr;rw[show IntKind.u32.bits=32 from rfl,h];exact Tf (by omega) (by omega)
theorem wN (k:Nat) {x:Int} (J:0<=x) (R:x<18446744073709551616) (m:Int) (ac:k<=64) (ao:m=2^k-1):eg .u64 x m=x %2^k:=by obtain⟨n,rfl⟩:=gn J;have ay:0<2^k:=mD k;have ae:m=((2^k-1:Nat):Int):=(by rw[ao,Int.natCast_sub ay];simp);have aI:2^k<=2^64:=uw (by decide) ac;rw[ae,Ud (by omega) (by omega),Nat.and_two_pow_sub_one_eq_mod];simp
theorem and_low32 {x:Int} (J:0<=x) (R:x<18446744073709551616):eg .u64 x 4294967295=x %4294967296:=wN 32 J R _ (by decide) (by decide)
theorem qY (x:Int):ec .u64 x 32=some (x/4294967296):=by have:ec .u64 x 32=some (x.fdiv 4294967296):=rfl;rw[this,Ig _ (by decide)]
theorem p2 {x y:Int} (aB:0<=y) (R:y<=64):iE .u64 x y=some ((x*2^y.toNat) %18446744073709551616):=by unfold iE;rw[if_pos aB,HU,show IntKind.u64.bits=64 from rfl,iY (by omega)]
theorem yi {x y:Int} (aB:0<=y) (R:y<=64):ec .u64 x y=some (x/2^y.toNat):=by unfold ec;rw[if_pos aB,show IntKind.u64.bits=64 from rfl,iY (by omega),Ig _ (by exact Int.pow_nonneg (by decide))]
theorem Uf (k:Nat) {a b:Nat} (aG:a<2^k):a|||(b*2^k)=a+b*2^k:=by rw[Nat.add_comm,Nat.or_comm,oI,Nat.two_pow_add_eq_or_of_lt aG]
theorem o5 (k:Nat) {x y:Int} (J:0<=x) (R:x<2^k) (ae:0<=y) (aI:x<18446744073709551616) (aX:y<18446744073709551616) (aN:y %2^k=0):fr .u64 x y=x+y:=by obtain⟨n,rfl⟩:=gn J;obtain⟨m,rfl⟩:=gn ae;have ag:n<2^k:=(by have:((n:Nat):Int)<((2^k:Nat):Int):=(by simpa using R);omega);have ao:m %2^k=0:=(by have:((m %2^k:Nat):Int)=0:=(by simpa using aN);omega);rw[arE (by omega) (by omega)];have bI:m=(m/2^k)*2^k:=(by have:=Nat.div_add_mod m (2^k);rw[ao,oI] at this;omega);rw[bI,Uf k ag];simp
def a7 (m:Nat):Nat:=if m=0 then 0 else m.log2+1
theorem eo {m k:Nat}:a7 m<=k↔m<2^k:=by
 unfold a7;split
 ·rename_i h;subst h;simp;exact mD k
 ·rename_i h;rw[<-Nat.log2_lt h];omega
theorem y4 {m k:Nat}:k<a7 m↔2^k<=m:=by rw[<-Nat.not_le,eo,Nat.not_lt]
theorem aab (a b:Nat) (h:a<=b):2^a<=2^b:=uw (by decide) h
theorem RX (a b:Nat) (h:a<b):2^a<2^b:=Nat.pow_lt_pow_right (by decide) h
theorem pq {a b:Nat} (h:a<=b):a7 a<=a7 b:=by rw[eo];have:=eo.1 (bS (a7 b));omega
theorem Es {a b k l:Nat} (J:a7 a<=k) (R:a7 b<=l):a7 (a*b)<=k+l:=by rw[eo,lR];exact Nat.mul_lt_mul'' (eo.1 J) (eo.1 R)
theorem Y3 {a b i B:Nat} (J:a<=i*B) (R:b<B):a+b<=(i+1)*B:=by rw[iJ,kP];omega
theorem agK (k:Nat) {x y:Nat} (ab:a7 x<=k) (aB:a7 y<=k):a7 (x+y)<=k+1:=by rw[eo] at*;rw[mC];omega
theorem uD {m:Nat} (h:0<m):0<a7 m:=y4.2 h
theorem agM:a7 0=0:=rfl
theorem UJ {m k:Nat} (J:2^k<=m) (R:m<2^(k+1)):a7 m=k+1:=by have:=y4.2 J;have:=eo.2 R;omega
theorem Er {m:Nat} (h:0<m):2^(a7 m-1)<=m/\m<2^a7 m:=
 ⟨y4.1 (by have:=uD h;omega),eo.1 (bS _)⟩
theorem y5 {m:Nat} (h:0<m) (k:Nat):a7 (m*2^k)=a7 m+k:=by
 obtain⟨J,R⟩:=Er h;have ay:=mD k;have aa:=uD h;obtain⟨j,al⟩:∃j,a7 m=j+1:=⟨a7 m-1,by omega⟩;rw[al] at J R|-;rw[show j+1+k=(j+k)+1 by omega];refine UJ ?_ ?_
 ·rw[lR];exact jT _ (by simpa using J)
 ·rw[show j+k+1=(j+1)+k by omega,lR];exact Nat.mul_lt_mul_of_pos_right R ay
theorem Et (m k:Nat):a7 (m/2^k)=a7 m-k:=by
 have ay:=mD k;apply Nat.le_antisymm
 ·rw[eo,Nat.div_lt_iff_lt_mul ay,<-lR];exact eo.1 (by omega)
 ·rcases ch k (a7 m) with h|h
  ·have:a7 m-k-1<a7 (m/2^k):=by
    rw[y4,In ay,<-lR];exact y4.1 (by omega)
   omega
  ·omega
def Bb (neg:Bool) (c:Int) (Hb:Bool) (mode:Int):Bool:=
 if mode=1 then neg else if mode=2 then !neg else if mode=3 then false else decide (0<c)||(decide (c=0)&&Hb)
def np (m s:Nat) (more:Bool):Int:=
 if 2*(m %2^s)<2^s then-1 else if 2^s<2*(m %2^s) then 1 else if more then 1 else 0
def jW (neg:Bool) (m s:Nat) (more:Bool) (mode:Int):Nat:=
 if m %2^s=0/\more=false then m/2^s
 else if Bb neg (np m s more) (decide (m/2^s %2=1)) mode then m/2^s+1 else m/2^s
theorem aoT (m k s:Nat):m %2^(k+s)=(m/2^k %2^s)*2^k+m %2^k:=by rw[lR,Nat.mod_mul,Nat.add_comm,oI]
def ox (neg:Bool) (f:Int):Int:=if neg then 9223372036854775808+f else f
def tI (neg:Bool) (mode:Int):Int:=
 if mode=3\/(mode=1/\neg=false)\/(mode=2/\neg=true) then ox neg 9218868437227405311 else ox neg 9218868437227405312
def sj (neg:Bool) (n:Nat) (u mode:Int):Int:=
 if n<4503599627370496 then ox neg n
 else if n=9007199254740992 then if u+1+1075>=2047 then tI neg mode else ox neg ((u+1+1075)*4503599627370496)
 else if u+1075>=2047 then tI neg mode else ox neg ((u+1075)*4503599627370496+(n-4503599627370496))
def cQ (m:Nat) (e:Int):Int:=max (e+a7 m-1-52) (-1074)
def ot (neg:Bool) (m:Nat) (e:Int) (more:Bool) (mode:Int):Int:=
 if cQ m e<=e then sj neg (m*2^(e-cQ m e).toNat) (cQ m e) mode
 else sj neg (jW neg m (cQ m e-e).toNat more mode) (cQ m e) mode
def qK:Nat->Nat->Nat
 |0,_=>0
 |f+1,n=>if(2*qK f (n/4)+1)*(2*qK f (n/4)+1)<=n then 2*qK f (n/4)+1 else 2*qK f (n/4)
def eW (n:Nat):Nat:=qK (a7 n) n
theorem amY:∀{f n:Nat},n<4^f->qK f n*qK f n<=n/\n<(qK f n+1)*(qK f n+1):=by
 intro f
 induction f with
 |zero=>intro n h;simp at h;subst h;simp[qK]
 |succ f aT=>
  intro n h;obtain⟨J,R⟩:=aT (n:=n/4) (by rw[mC] at h;omega);unfold qK;generalize qK f (n/4)=s at J R|-;have aC:(2*s+1)*(2*s+1)=4*(s*s)+4*s+1:=(by grind);have aV:(2*s+1+1)*(2*s+1+1)=4*((s+1)*(s+1)):=(by grind);have b4:2*s*(2*s)=4*(s*s):=(by grind);split
  ·rename_i ae;exact⟨ae,by rw[aV];omega⟩
  ·rename_i ae;exact⟨by rw[b4];omega,by omega⟩
theorem Gk (n:Nat):eW n*eW n<=n/\n<(eW n+1)*(eW n+1):=by refine amY ?_;have J:n<2^a7 n:=eo.1 (bS _);exact jn J (Nat.pow_le_pow_left (by decide) _)
theorem SP {n a b:Nat} (J:a*a<=n) (R:n<(b+1)*(b+1)):a<=b:=by
 rcases ch b a with h|h
 ·have:=oJ (show b+1<=a from h) (show b+1<=a from h);omega
 ·exact h
theorem amZ {n s:Nat} (J:s*s<=n) (R:n<(s+1)*(s+1)):eW n=s:=by obtain⟨ae,aI⟩:=Gk n;exact Nat.le_antisymm (SP ae R) (SP J aI)
abbrev sG:=Bool×List Int×Unit
abbrev acx:=Bool×sG×Int×Unit
def gj (b:sG):Int:=if b.1 then-ak b.2.1 else ak b.2.1
def bf (z:Int):sG:=(decide (z<0),dd z.natAbs,())
theorem q6 (z:Int):gj (bf z)=z:=by unfold gj bf;simp only[mK,decide_eq_true_eq];split<;>omega
theorem nZ (z:Int):bp (bf z).2.1:=lZ _
theorem Kw (z:Int):en (bf z).2.1:=qv _
theorem kk (z:Int):ak (bf z).2.1=z.natAbs:=mK _
theorem Fq {z:Int}:(bf z).2.1=[]↔z=0:=by show dd z.natAbs=[]↔_;rw[OG];omega
theorem VE {neg:Bool} {l:List Int} (ah:bp l) (af:en l):(neg&&decide (l≠[]),l,())=bf (gj (neg,l,())):=by
 have aU:=e6 ah;have J:l=dd (ak l).toNat:=en.eq ah af;have R:l=[]↔ak l=0:=⟨fun h=>by rw[h];rfl,en.zero ah af⟩;unfold bf gj;cases neg
 ·simp only[Bool.false_and,Bool.false_eq_true,if_false];rw[show decide (ak l<0)=false from decide_eq_false (by omega),show(ak l).natAbs=(ak l).toNat by omega,<-J]
 ·simp only[Bool.true_and,if_true];rw[show(-ak l).natAbs=(ak l).toNat by omega,<-J];congr 1;rw[decide_eq_decide];constructor
  ·intro h;have:=mt R.2 h;omega
  ·intro h e;have:=R.1 e;omega
def M2:Nat->Nat->Nat
 |0,_=>0
 |f+1,n=>if n %2=0 then M2 f (n/2)+1 else 0
def cF (n:Nat):Nat:=if n=0 then 0 else M2 (a7 n) n
theorem auE:∀{f n:Nat},0<n->n<2^f->∃a,n=(2*a+1)*2^M2 f n:=by
 intro f
 induction f with
 |zero=>intro n J R;simp at R;omega
 |succ f aT=>
  intro n J R;unfold M2;split
  ·rename_i h;obtain⟨a,aG⟩:=aT (n:=n/2) (by omega) (by rw[mC] at R;omega);refine⟨a,?_⟩;rw[mC,<-yP,<-aG];omega
  ·rename_i h;exact⟨n/2,by simp;omega⟩
theorem Ba {n:Nat} (h:0<n):∃a,n=(2*a+1)*2^cF n:=by unfold cF;rw[if_neg (by omega)];exact auE h (eo.1 (bS _))
theorem Zm:∀{s t a b:Nat},(2*a+1)*2^s=(2*b+1)*2^t->s=t/\a=b
 |0,0,a,b,h=>by simp at h;omega
 |0,t+1,a,b,h=>by rw[mC,<-yP] at h;simp at h;omega
 |s+1,0,a,b,h=>by rw[mC,<-yP] at h;simp at h;omega
 |s+1,t+1,a,b,h=>by rw[mC,<-yP,mC,<-yP] at h;obtain⟨J,R⟩:=Zm (s:=s) (t:=t) (a:=a) (b:=b) (by omega);exact⟨by omega,R⟩
theorem HM {n a t:Nat} (h:n=(2*a+1)*2^t):cF n=t:=by have ay:=mD t;have aU:0<n:=(by rw[h];exact Nat.mul_pos (by omega) ay);obtain⟨b,aa⟩:=Ba aU;exact(Zm (aa.symm.trans h)).1
theorem auF {n:Nat} (h:0<n) (k:Nat):cF (n*2^k)=cF n+k:=by obtain⟨a,aG⟩:=Ba h;refine HM (a:=a) ?_;rw[lR,<-yP,<-aG]
theorem A9 {n:Nat} (h:0<n):cF n<a7 n:=by
 obtain⟨a,aG⟩:=Ba h;rw[y4]
 conv=>rhs;rw[aG]
 have:=jT (2^cF n) (show 1<=2*a+1 by omega);omega
theorem As {n k:Nat} (h:0<n):k<=cF n↔n %2^k=0:=by
 obtain⟨a,aG⟩:=Ba h;constructor
 ·intro ac;obtain⟨j,al⟩:∃j,cF n=j+k:=⟨cF n-k,by omega⟩;rw[al,lR,<-yP] at aG
  conv=>lhs;rw[aG]
  exact Nat.mul_mod_left _ _
 ·intro ao;rcases ch (cF n) k with J|J
  ·exfalso;obtain⟨j,al⟩:∃j,k=cF n+(j+1):=⟨k-cF n-1,by omega⟩;have R:n=n/2^k*2^k:=(by have:=Nat.div_add_mod n (2^k);rw[ao,oI] at this;omega);have ay:=mD (cF n);have ae:(2*a+1)*2^cF n=(2*(n/2^k*2^j))*2^cF n:=by
    rw[<-aG]
    conv=>lhs;rw[R,al,lR,mC]
    grind
   have:=Nat.eq_of_mul_eq_mul_right ay ae;omega
  ·exact J
def su (m k:Int):Int:=m*2^k.toNat/2^(-k).toNat
def ho (m e:Int):Option Int:=
 if m=0 then some 0
 else if e+cF m.natAbs< -65536\/65536<e+a7 m.natAbs then none
 else some (su m (e+65536))
def ck:Option Int->acx
 |none=>(true,(false,[],()),0,())
 |some v=>if v=0 then(false,(false,[],()),0,()) else(false,bf (v/2^cF v.natAbs),(cF v.natAbs:Int)-65536,())
def iT (v:Int):Prop:=a7 v.natAbs<=131072
instance(v:Int):Decidable (iT v):=inferInstanceAs (Decidable (_<=_))
def uF (v:Int):Option Int:=if iT v then some v else none
def gU (d:Option Int):Prop:=∀v,d=some v->iT v
theorem vG (m:Int) (k:Nat):(m*2^k).natAbs=m.natAbs*2^k:=by rw[Int.natAbs_mul,Int.natAbs_pow];rfl
theorem Ov {v:Int} {k:Nat} (h:v.natAbs %2^k=0):v/2^k*2^k=v:=by have J:((2^k:Nat):Int)∣v:=Int.ofNat_dvd_left.2 (Nat.dvd_of_mod_eq_zero h);rw[show(2:Int)^k=((2^k:Nat):Int) by simp];exact Int.ediv_mul_cancel J
theorem G4 {v:Int} {k:Nat} (h:v.natAbs %2^k=0):(v/2^k).natAbs=v.natAbs/2^k:=by
 have J:=Ov h;have ay:=mD k
 conv=>rhs;rw[<-J,vG,Nat.mul_div_cancel _ ay]
theorem v7 (m:Int) (k:Nat):su m k=m*2^k:=by unfold su;rw[d4,show(-(k:Int)).toNat=0 by omega];simp
theorem DD (m:Int) (k:Nat):su m (-(k:Int))=m/2^k:=by unfold su;rw[Int.neg_neg,d4,show(-(k:Int)).toNat=0 by omega];simp
def b6 (v:Int):Int:=v/2^cF v.natAbs
def i7 (v:Int):Int:=(cF v.natAbs:Int)-65536
theorem Dj (v:Int):b6 v*2^cF v.natAbs=v:=by
 rcases rk v.natAbs with h|h
 ·obtain rfl:v=0:=(by omega);rfl
 ·exact Ov ((As h).1 (bS _))
theorem apx {v:Int} (h:v≠0):(b6 v).natAbs=v.natAbs/2^cF v.natAbs:=G4 ((As (by omega)).1 (bS _))
theorem sg {v:Int} (h:v≠0):b6 v≠0:=fun e=>by have:=Dj v;rw[e] at this;simp at this;exact h this.symm
theorem apz {v:Int} (h:v≠0):a7 (b6 v).natAbs=a7 v.natAbs-cF v.natAbs:=by rw[apx h,Et]
theorem G9 {v:Int}:b6 v<0↔v<0:=by
 have h:=Dj v;have ay:(0:Int)<2^cF v.natAbs:=uh (by decide);constructor
 ·intro J;have:=Int.mul_neg_of_neg_of_pos J ay;omega
 ·intro J;rcases kJ (b6 v) 0 with R|R
  ·exact R
  ·have:=qd R (fu ay);omega
theorem VG {v:Int} (h:v≠0):ck (some v)=(false,bf (b6 v),i7 v,()):=by show(if v=0 then _ else _)=_;rw[if_neg h];rfl
theorem Ra {m e v:Int} (aE:-65536<=e) (hv:v=m*2^(e+65536).toNat):ho m e=uF v:=by
 obtain⟨k,ac⟩:∃k:Nat,e+65536=k:=⟨(e+65536).toNat,by omega⟩;rw[ac,d4] at hv;unfold ho uF;by_cases aU:m=0
 ·subst aU;simp only[Int.zero_mul] at hv;subst hv;rw[if_pos rfl,if_pos (show iT 0 from(by decide:a7 0<=131072))]
 rw[if_neg aU];have aa:a7 v.natAbs=a7 m.natAbs+k:=(by rw[hv,vG,y5 (by omega)]);by_cases hr:iT v
 ·rw[if_pos hr];unfold iT at hr;rw[if_neg (by omega),ac,v7,hv]
 ·rw[if_neg hr];unfold iT at hr;rw[if_pos (by omega)]
theorem aoM {v:Int} (h:iT v):ho (b6 v) (i7 v)=some v:=by
 by_cases aU:v=0
 ·subst aU;rfl
 rw[Ra (v:=v) (by unfold i7;omega) (by
  conv=>lhs;rw[<-Dj v]
  unfold i7;rw[show((cF v.natAbs:Int)-65536+65536).toNat=cF v.natAbs by omega])]
 exact if_pos h
theorem Q9 (m e:Int):gU (ho m e):=by
 intro v hv;unfold ho at hv;split at hv
 ·cases hv;show a7 0<=_;decide
 split at hv
 ·cases hv
 rename_i aU J;cases hv;unfold iT;rcases Int.le_total 0 (e+65536) with R|R
 ·obtain⟨k,ac⟩:∃k:Nat,e+65536=k:=⟨(e+65536).toNat,by omega⟩;rw[ac,v7,vG,y5 (by omega)];omega
 ·obtain⟨k,ac⟩:∃k:Nat,e+65536=-(k:Int):=⟨(-(e+65536)).toNat,by omega⟩;rw[ac,DD,G4 ((As (by omega)).1 (by omega)),Et];omega
theorem ahm (v:Int):gU (uF v):=by
 intro w hw;unfold uF at hw;split at hw
 ·cases hw;assumption
 ·cases hw
def Mw (k A B:Nat) (neg:Bool) (e mode:Int):Int:=ot neg (A*2^k/B) (e-k) (decide (A*2^k %B≠0)) mode
theorem aav {k A B:Nat} (eS:0<A) (eP:0<B) (ac:58+a7 B<=a7 A+k):58<=a7 (A*2^k/B):=by
 rcases ch 57 (a7 (A*2^k/B)) with h|h
 ·exact h
 exfalso;have J:A*2^k/B<2^57:=eo.1 h;rw[Nat.div_lt_iff_lt_mul eP] at J;have R:=(Er eP).2;have ae:A*2^k<2^57*2^a7 B:=jn J (Nat.mul_le_mul_left _ (Nat.le_of_lt R));rw[<-lR,<-eo,y5 eS] at ae;omega
def MJ (k M:Nat) (e mode:Int):Int:=ot false (eW (M*2^k)) ((e-k)/2) (decide (eW (M*2^k)*eW (M*2^k)≠M*2^k)) mode
theorem XZ {M:Nat} (h:115<=a7 M):58<=a7 (eW M):=by
 rcases ch 57 (a7 (eW M)) with J|J
 ·exact J
 exfalso;have R:eW M+1<=2^57:=eo.1 J;have ae:=(Gk M).2;have aI:=oJ R R;have aX:M<2^114:=(by have:2^57*2^57=2^114:=(by rw[<-lR]);omega);have:=eo.2 aX;omega
def Hv (v mode:Int):Int:=if v=0 then 0 else ot (decide (v<0)) (b6 v).natAbs (i7 v) false mode
def vT (A B:Nat):Nat:=59+a7 B-a7 A
def Ds (a b mode:Int):Int:=Mw (vT (b6 a).natAbs (b6 b).natAbs) (b6 a).natAbs (b6 b).natAbs (decide (a<0)!=decide (b<0)) (i7 a-i7 b) mode
def so (M:Nat) (e:Int):Nat:=if(e-((118-a7 M:Nat):Int)) %2=0 then 118-a7 M else 118-a7 M+1
def Dw (v mode:Int):Int:=MJ (so (b6 v).natAbs (i7 v)) (b6 v).natAbs (i7 v) mode
theorem dO {α:Type} {l:List α} {i:Nat} (h:i<l.length):bb l (i:Int)=some l[i]:=l1 (ct h)
theorem HT {n:Nat} (h:n<9223372036854775808):aY (n:Int)=(n:Int):=wrap64 (by omega) (by omega)
theorem cp {x:Int} (J:-9223372036854775808<=x) (R:x<=9223372036854775807):aY x=x:=wrap64 J R
theorem cY {n:Nat} (h:n<9223372036854775807):bR (n:Int)=((n+1:Nat):Int):=by unfold bR;rw[wrap64 (by omega) (by omega)];simp
theorem dT {x:Int} (J:0<=x) (R:x<18446744073709551616):bo x=x:=Na J R
theorem nK {x:Int} (J:0<=x) (R:x<4294967296):dF x=x:=Tf J R
theorem wk (x:Int):dF x=x %4294967296:=Te x
theorem o9 (x:Int):bo x=x %18446744073709551616:=HU x
theorem vu {x:Int} (J:0<=x) (R:x<18446744073709551616):dF (eg IntKind.u64 x 4294967295)=x %4294967296:=by rw[and_low32 J R,nK (by omega) (by omega)]
theorem bQ {α:Type} (l:List α):aW l=(l.length:Int):=rfl
theorem MR {α:Type} {l:List α} {n:Nat} (h:n<=l.length):((some (0:Nat)).bind fun GF=>(hp (n:Int)).bind fun GG=>(ia GF GG l.length).map fun _=>(GF,GG))=some (0,n):=by rw[br,G5,br,LP ⟨eL _,h⟩];rfl
theorem q4 {l:List Int} (ah:bp l) (ag:l.length<=100000000):it (l,())=some (iF l,()):=by
 unfold it;refine U.eq_iff.1 ?_;refine U.bP (P:=fun r=>∃n:Nat,r.1=(n:Int)/\n<=l.length/\(∀k,n<=k->(ac:k<l.length)->l[k]=0)/\en (l.take n)) ?_ ?_
 ·refine U.loop (fun s=>∃n:Nat,s.1=(n:Int)/\n<=l.length/\(∀k,n<=k->(ac:k<l.length)->l[k]=0)) (fun s=>s.1.toNat) ⟨l.length,rfl,bS _,fun k J R=>by omega⟩ ?_;rintro⟨_,_⟩ ⟨n,rfl,J,R⟩;rcases n with _|n
  ·refine U.au.2 ⟨0,rfl,eL _,R,fun x ab=>by simp at ab⟩
  ·have aC:aY (((n+1:Nat):Int)-1)=(n:Int):=(by rw[cp (by omega) (by omega)];omega);have aV:decide (((n+1:Nat):Int)>0)=true:=bc (by omega);simp only[aC,aV,beq_self_eq_true,cond_true,dO (show n<l.length from J),br];by_cases aU:l[n]=0
   ·rw[e5,bc aU];refine U.au.2 ⟨⟨n,rfl,by omega,fun k ac ga=>?_⟩,?_⟩
    ·rcases ch n k with h|h
     ·exact R k h ga
     ·obtain rfl:k=n:=(by omega);exact aU
    ·show(n:Int).toNat<((n+1:Nat):Int).toNat;omega
   ·rw[e5,a5 aU];refine U.au.2 ⟨n+1,rfl,J,R,fun x ab=>?_⟩;rw[nR,ct J] at ab;have ab:(l.take n++[l[n]]).getLast?=some x:=ab;rw[List.getLast?_concat] at ab;cases ab;exact aU
 ·rintro⟨_,_⟩ ⟨n,rfl,J,R,ae⟩;refine U.of_eq (aP (MR J) rfl) ?_;show(List.drop 0 (List.take n l),())=_;rw[rf,abH ah J R ae]
theorem Ex {l:List Int} (ag:l.length<=100000000):zn (l,())=some (l,()):=by
 unfold zn;have e:((dA (([]:List Int).length+l.length)).bind fun _=>some (([]++l:List Int),()))=some (l,()):=(by rw[fD (by simp;omega)];rfl);show qP l.length (some ([],())) ((dA (([]:List Int).length+l.length)).bind fun _=>some (([]++l:List Int),()))=_;unfold qP;rw[e];split
 ·rename_i h;obtain rfl:=pb h;rw[if_pos rfl]
 ·rfl
theorem vt {l:List Int}:(aW l==0)=decide (l=[]):=by rw[e5,decide_eq_decide];show((l.length:Nat):Int)=0↔_;rw[<-No];omega
theorem BP {neg:Bool} {l:List Int} (ah:bp l) (ag:l.length<=100000000):mJ (neg,l,())=some (bf (gj (neg,l,())),()):=by
 unfold mJ;refine aP (q4 ah ag) ?_;have h:=VE (neg:=neg) (abE l) (abF l);have R:gj (neg,iF l,())=gj (neg,l,()):=(by unfold gj;simp only[abG ah]);rw[<-R,<-h];simp only[vt,cB];split
 ·rename_i aU;simp[aU]
 ·rename_i aU;simp[aU]
theorem aiG {z:Int} {n:Nat} (h:z.natAbs<2^(32*n)):(bf z).2.1.length<=n:=by refine w8 ?_;unfold bm;have J:(2^(32*n):Nat)=4294967296^n:=(by rw[Nat.pow_mul]);rw[J] at h;have:((4294967296^n:Nat):Int)=4294967296^n:=(by simp);omega
def Fit (z:Int):Prop:=(bf z).2.1.length<=31250
theorem aiF (k:Nat) {z:Int} (h:a7 z.natAbs<=32*k):(bf z).2.1.length<=k:=aiG (eo.1 h)
theorem jY {z:Int} (h:a7 z.natAbs<=1000000):Fit z:=aiF 31250 (by omega)
theorem aps {b:sG} (ah:bp b.2.1) (ag:b.2.1.length<=100000000):Jw (b,())=some (bf (gj b),()):=by obtain⟨neg,l,_⟩:=b;unfold Jw;exact aP (Ex ag) (aP (BP ah ag) rfl)
theorem M8 (neg:Bool) (l:List Int):gj (!neg,l,())=-gj (neg,l,()):=by unfold gj;cases neg<;>simp
theorem abX {l:List Int} (h:bp l) (neg:Bool):gj (false,l,())=(gj (neg,l,())).natAbs:=by have:=e6 h;unfold gj;cases neg<;>simp<;>omega
theorem Zg {z:Int} (aZ:Fit z):wY (bf z,())=some (bf (-z),()):=by unfold wY;have ag:(bf z).2.1.length<=100000000:=eu aZ (by decide);refine aP (Ex ag) (aP (BP (nZ z) ag) ?_);have h:=M8 (bf z).1 (bf z).2.1;have R:=q6 z;rw[h];show some (bf (-gj (bf z)),())=_;rw[R]
theorem Ny {z:Int} (aZ:Fit z):B1 (bf z,())=some (bf z.natAbs,()):=by unfold B1;have ag:(bf z).2.1.length<=100000000:=eu aZ (by decide);refine aP (Ex ag) (aP (BP (nZ z) ag) ?_);rw[abX (nZ z) (bf z).1];have R:=q6 z;show some (bf ((gj (bf z)).natAbs:Int),())=_;rw[R]
theorem abD {z:Int} (aZ:Fit z):it ((bf z).2.1,())=some ((bf z).2.1,()):=by rw[q4 (nZ z) (eu aZ (by decide))];have h:=en.eq (nZ z) (Kw z);show some (dd (ak (bf z).2.1).toNat,())=_;rw[<-h]
def fY (z:Int):Int:=if z=0 then 0 else if z<0 then-1 else 1
theorem v9 {z:Int} (aZ:Fit z):rG (bf z,())=some (fY z,()):=by
 unfold rG;refine aP (abD aZ) ?_;simp only[vt,cB,Fq];unfold fY;split
 ·rfl
 ·show(bif decide (z<0) then _ else _)=_;rw[cB];split<;>rfl
theorem U.steps {σ ρ:Type} {f:σ->Option (σ⊕ρ)} {Q:ρ->Prop} (n:Nat) (I:Nat->σ->Prop) {ka:σ} (aU:I 0 ka) (ve:∀i s,i<n->I i s->U (f s) (fun|.inl s'=>I (i+1) s'|.inr r=>Q r)) (u2:∀s,I n s->U (f s) (fun|.inl _=>False|.inr r=>Q r)):U (lP.loop f ka) Q:=by
 have key:∀k i s,i+k=n->I i s->∃r,ko f (k+1) s=some r/\Q r:=by
  intro k
  induction k with
  |zero=>
   intro i s hi hs;obtain rfl:i=n:=hi;obtain⟨y,J,R⟩:=u2 s hs;cases y with
   |inl s'=>exact R.elim
   |inr r=>exact⟨r,by simp only[ko,J],R⟩
  |succ k aT=>
   intro i s hi hs;obtain⟨y,J,R⟩:=ve i s (by omega) hs;cases y with
   |inl s'=>
    obtain⟨r,ae,aI⟩:=aT (i+1) s' (by omega) R;exact⟨r,by rw[ko,J];exact ae,aI⟩
   |inr r=>exact⟨r,by simp only[ko,J],R⟩
 obtain⟨r,J,R⟩:=key n 0 ka (by omega) aU;exact⟨r,GP.2 ⟨_,J⟩,R⟩
theorem HR (l:List Int) (i:Nat):ak (l.take (i+1))=ak (l.take i)+bm i*l.getD i 0:=by
 rcases ch i l.length with h|h
 ·rw[jE h,lc,ct h];rfl
 ·rw[eC (by omega),eC h,lc,gy h];simp
theorem bp.getD {l:List Int} (h:bp l) (i:Nat):0<=l.getD i 0/\l.getD i 0<4294967296:=by
 rcases ch i l.length with J|J
 ·rw[lc,ct J];exact h.get J
 ·rw[lc,gy J];exact⟨wz _,by decide⟩
theorem mN {l:List Int} {i:Nat} (h:i<l.length):l.getD i 0=l[i]:=by rw[lc,ct h];rfl
theorem s6 {l:List Int} {i:Nat} (h:l.length<=i):l.getD i 0=0:=by rw[lc,gy h];rfl
theorem R2 {a b:List Int} (aG:bp a) (aa:bp b) (k3:a.length<=10000000) (gd:b.length<=10000000):zl (a,b,())=some (dd (ak a+ak b).toNat,()):=by
 unfold zl;refine U.eq_iff.1 ?_;refine U.bP (P:=fun r=>∃x y,r=(x,y,())/\bp x/\bp y/\x.length<=10000000/\y.length<=x.length/\ak x+ak y=ak a+ak b) ?_ ?_
 ·simp only[cB];refine U.ite (fun h=>U.au.2 ⟨b,a,rfl,aa,aG,gd,?_,Int.add_comm _ _⟩) fun h=>U.au.2 ⟨a,b,rfl,aG,aa,k3,?_,rfl⟩
  ·simp only[bQ] at h;omega
  ·simp only[bQ] at h;omega
 rintro _ ⟨b2,cP,rfl,akF,cM,awY,fb,hs⟩;rw[<-hs];clear hs aG aa k3 gd;dsimp only;have ep:bR (aW b2)=((b2.length+1:Nat):Int):=cY (by omega);have aC:gG 0 ((b2.length+1:Nat):Int)=some 0:=(by unfold gG;rw[if_pos ⟨by omega,by omega,by have:gv=4294967296:=rfl;omega⟩];rfl);rw[ep,aC];refine U.bP (P:=fun r=>∃c out,r=(c,out,())/\out.length=b2.length/\bp out/\0<=c/\c<=1/\ak out+bm b2.length*c=ak b2+ak cP) ?_ ?_
 ·refine U.steps b2.length (fun i s=>∃c out,s=(c,(i:Int),out,())/\out.length=i/\bp out/\0<=c/\c<=1/\ak out+bm i*c=ak (b2.take i)+ak (cP.take i)) ⟨0,[],rfl,rfl,bp.nil,by omega,by omega,by simp[ak]⟩ ?_ ?_
  ·rintro i _ hi ⟨c,out,rfl,J,R,ae,aI,aX⟩;have ab:=akF.get hi;have aB:=cM.getD i;have af:∃t,t=b2[i]+c+cP.getD i 0/\0<=t/\t<18446744073709551616/\t/4294967296<=1:=⟨_,rfl,by omega,by omega,by omega⟩;obtain⟨t,af,t0,t1,t2⟩:=af;have ah:decide ((i:Int)<aW b2)=true:=bc (by simp only[bQ];omega);simp only[ah,cond_true,dO hi,br];refine U.bP (P:=fun r=>r=(t/4294967296,out++[t %4294967296],())) ?_ ?_
   ·refine U.bP (P:=fun r=>r=(t,out,())) ?_ ?_
    ·simp only[cB];refine U.ite (fun h=>?_) fun h=>?_
     ·have h:i<cP.length:=(by simp only[bQ] at h;omega);rw[dO h];rw[mN h] at af aB;refine U.au.2 ?_;rw[dT (x:=b2[i]) (by omega) (by omega),dT (x:=b2[i]+c) (by omega) (by omega),dT (x:=cP[i]) (by omega) (by omega),dT (by omega) (by omega),af]
     ·have h:cP.length<=i:=(by simp only[bQ] at h;omega);rw[s6 h] at af;refine U.au.2 ?_;rw[dT (x:=b2[i]) (by omega) (by omega),dT (x:=b2[i]+c) (by omega) (by omega),af,Int.add_zero]
    ·rintro _ rfl;dsimp only;rw[fD (by simp;omega),vu t0 t1,qY];exact U.au.2 rfl
   ·rintro _ rfl;dsimp only;refine U.au.2 ⟨t/4294967296,out++[t %4294967296],by rw[cY (by omega)],by simp[J],R.snoc (by omega) (by omega),by omega,t2,?_⟩;rw[t7,J,iW,jE hi,HR];have:=Int.emod_add_mul_ediv t 4294967296;generalize t/4294967296=q at*;generalize t %4294967296=r at*;subst af;grind
  ·rintro _ ⟨c,out,rfl,J,R,ae,aI,aX⟩;have ah:decide ((b2.length:Int)<aW b2)=false:=a5 (by simp only[bQ];omega);simp only[ah,cond_false];refine U.au.2 ⟨c,out,rfl,J,R,ae,aI,?_⟩;rw[aX,eC (bS _),eC fb]
 ·rintro _ ⟨c,out,rfl,J,R,ae,aI,aX⟩;dsimp only;rw[fD (by simp;omega),nK ae (by omega)];refine U.of_eq (aP rfl (aP (q4 (R.snoc ae (by omega)) (by simp;omega)) rfl)) ?_;show(iF (out++[c]),())=_;rw[iF,t7,J,aX]
def lV (l:List Int) (i:Nat):Prop:=∀k,i<=k->(ac:k<l.length)->l[k]=0
theorem lV.rb (n i:Nat):lV (List.replicate n (0:Int)) i:=fun k _ ac=>by simp
theorem lV.set {l:List Int} {i:Nat} (h:lV l i) (x:Int):lV (l.set i x) (i+1):=fun k J ac=>by rw[BA (by omega)];exact h k (by omega) _
theorem lV.abg {l:List Int} {i j:Nat} (h:lV l i) (x:Int) (al:j<i):lV (l.set j x) i:=fun k J ac=>by rw[BA (by omega)];exact h k J _
theorem YP {a b:List Int} (aG:bp a) (aa:bp b) (k3:a.length<=10000000) (fb:b.length<=a.length) (hv:ak b<=ak a):B5 (a,b,())=some (dd (ak a-ak b).toNat,()):=by
 unfold B5;refine U.eq_iff.1 ?_;simp only[bQ,lE (show a.length<=4294967296 by omega),br];refine U.bP (P:=fun r=>∃out c,r=(out,())/\out.length=a.length/\bp out/\0<=c/\c<=1/\ak out-bm a.length*c=ak a-ak b) ?_ ?_
 ·refine U.steps a.length (fun i s=>∃c out,s=(c,(i:Int),out,())/\out.length=a.length/\bp out/\lV out i/\0<=c/\c<=1/\ak out-bm i*c=ak (a.take i)-ak (b.take i)) ⟨0,_,rfl,by simp,bp.rb _,lV.rb _ _,by omega,by omega,by simp[ak,yq]⟩ ?_ ?_
  ·rintro i _ hi ⟨c,out,rfl,J,R,aZ,ae,aI,aX⟩;have ab:=aG.get hi;have aB:=aa.getD i;obtain⟨d,aN,cJ,cz⟩:∃d,d=a[i]-c-b.getD i 0/\-4294967296<=d/\d<4294967296:=⟨_,rfl,by omega,by omega⟩;have ah:decide ((i:Int)<(a.length:Int))=true:=bc (by omega);simp only[bQ,ah,cond_true,dO hi,br];refine U.bP (P:=fun r=>r=(-(d/4294967296),out.set i (d %4294967296),())) ?_ ?_
   ·refine U.bP (P:=fun r=>r=(d %18446744073709551616,out,())) ?_ ?_
    ·simp only[cB];refine U.ite (fun h=>?_) fun h=>?_
     ·have h:i<b.length:=(by omega);rw[dO h];rw[mN h] at aN aB;refine U.au.2 ?_;simp only[o9];rw[aN];congr 1;omega
     ·have h:b.length<=i:=(by omega);rw[s6 h] at aN;refine U.au.2 ?_;simp only[o9];rw[aN];congr 1;omega
    ·rintro _ rfl;dsimp only;rw[vu (by omega) (by omega),sC (by omega),qY];refine U.au.2 ?_;rw[wN 1 (by omega) (by omega) 1 (by decide) (by decide)];have aK:d %18446744073709551616/4294967296 %2^1=-(d/4294967296):=by
      rw[show(2:Int)^1=2 from rfl];omega
     have aL:d %18446744073709551616 %4294967296=d %4294967296:=(by omega);rw[aK,aL]
   ·rintro _ rfl;dsimp only;refine U.au.2 ⟨-(d/4294967296),out.set i (d %4294967296),by rw[cY (by omega)],by simp[J],R.set (by omega) (by omega),aZ.set _,by omega,by omega,?_⟩;rw[sA (by omega),aZ i (Nat.le_refl _) (by omega),iW,jE hi,HR];have:=Int.emod_add_mul_ediv d 4294967296;generalize d/4294967296=q at*;generalize d %4294967296=r at*;subst aN;grind
  ·rintro _ ⟨c,out,rfl,J,R,aZ,ae,aI,aX⟩;have ah:decide ((a.length:Int)<(a.length:Int))=false:=a5 (by omega);simp only[bQ,ah,cond_false];refine U.au.2 ⟨out,c,rfl,J,R,ae,aI,?_⟩;rw[aX,eC (bS _),eC fb]
 ·rintro _ ⟨out,c,rfl,J,R,ae,aI,aX⟩;dsimp only;have bI:=hS R;have eO:=f3 a.length;rw[J] at bI;have hc:c=0:=by
   rcases kJ 0 c with h|h
   ·obtain rfl:c=1:=(by omega);omega
   ·omega
  subst hc;refine U.of_eq (aP (q4 R (by omega)) rfl) ?_;show(iF out,())=_;rw[iF,<-aX];simp
def fm (x y:Int):Int:=if x<y then-1 else if y<x then 1 else 0
theorem N7 (x y:Int):BW (x,y,())=some (fm x y,()):=by
 unfold BW wW fm;simp only[bne_self_eq_false,br,cond_false,cB];split
 ·rfl
 ·split
  ·rename_i J R
   first|rfl|(rw[if_pos (by omega)])
  ·first|rfl|(rename_i J R;rw[if_neg (by omega)])
theorem ahE (x y:Int):I5 (x,y,())=some (fm x y,()):=by
 unfold I5 I7 fm;simp only[bne_self_eq_false,br,cond_false,cB];split
 ·rfl
 ·split
  ·rename_i J R
   first|rfl|(rw[if_pos (by omega)])
  ·first|rfl|(rename_i J R;rw[if_neg (by omega)])
theorem M9 {a b:List Int} (aG:bp a) (aa:bp b) {i:Nat} (hi:i<a.length) (al:i<b.length) (h:ak (a.drop (i+1))=ak (b.drop (i+1))) (cg:a[i]<b[i]):ak a<ak b:=by rw[t8 a i (by omega),t8 b i (by omega),nI hi,nI al,h];have J:=hS (aG.take i);have R:=e6 (aa.take i);rw[fl,iY (by omega)] at J;have ae:bm i*(a[i]+1)<=bm i*b[i]:=nf (by omega) (fu (f3 i));have aI:bm i*(a[i]+1)=bm i*a[i]+bm i:=(by grind);have aX:∀z,bm i*(a[i]+z)=bm i*a[i]+bm i*z:=fun z=>(by grind);have bI:∀z,bm i*(b[i]+z)=bm i*b[i]+bm i*z:=fun z=>(by grind);rw[aX,bI];omega
theorem wh {a b:List Int} (aG:bp a) (aa:bp b) (tb:en b) (h:a.length<b.length):ak a<ak b:=by have J:=hS aG;have R:=en.low aa tb (by intro e;rw[e] at h;simp at h);have ae:=sl (m:=a.length) (n:=b.length-1) (by omega);omega
theorem IZ {a b:List Int} (aG:bp a) (aa:bp b) (ta:en a) (tb:en b) (k3:a.length<=10000000) (gd:b.length<=10000000):zk (a,b,())=some (fm (ak a) (ak b),()):=by
 unfold zk;refine U.eq_iff.1 ?_;simp only[ew,bQ];by_cases ag:a.length=b.length
 ·rw[bc (show(a.length:Int)=b.length by omega)];simp only[lN,cond_false];refine U.bP (P:=fun q=>match q with|.inl _=>ak a=ak b|.inr r=>r=(fm (ak a) (ak b),())) ?_ ?_
  ·refine U.steps a.length (fun i s=>s=(((a.length:Nat):Int)-1-i,())/\ak (a.drop (a.length-i))=ak (b.drop (a.length-i))) ⟨?_,?_⟩ ?_ ?_
   ·rw[cp (by omega) (by omega)];simp
   ·rw[uk (by omega),uk (by omega)]
   ·rintro i _ hi ⟨rfl,J⟩;obtain⟨k,ac⟩:∃k,a.length=k+1+i:=⟨a.length-1-i,by omega⟩;have aC:((a.length:Nat):Int)-1-(i:Int)=(k:Int):=(by omega);have pM:k<a.length:=(by omega);have vp:k<b.length:=(by omega);rw[show a.length-i=k+1 by omega] at J;simp only[aC,bc (show(k:Int)>=0 by omega),cond_true,dO pM,dO vp,br,ahE];by_cases aE:a[k]=b[k]
    ·simp only[bc aE,lN,cond_false];refine U.au.2 ⟨?_,?_⟩
     ·rw[cp (by omega) (by omega)];congr 1;omega
     ·rw[show a.length-(i+1)=k by omega,nI pM,nI vp,aE,J]
    ·simp only[a5 aE,nN,cond_true];refine U.au.2 ?_;show(fm a[k] b[k],())=_;have hc:fm a[k] b[k]=fm (ak a) (ak b):=by
      unfold fm;rcases Int.lt_or_gt_of_ne aE with h|h
      ·rw[if_pos h,if_pos (M9 aG aa pM vp J h)]
      ·have:=M9 aa aG vp pM J.symm h;rw[if_neg (by omega),if_pos h,if_neg (by omega),if_pos this]
     rw[hc]
   ·rintro _ ⟨rfl,J⟩;have aC:¬(((a.length:Nat):Int)-1-(a.length:Int)>=0):=(by omega);simp only[a5 aC,cond_false];refine U.au.2 ?_;simpa using J
  ·rintro(q|q) ai
   ·refine U.au.2 ?_;have ai:ak a=ak b:=ai;unfold fm;rw[ai];simp
   ·have ai:q=_:=ai;rw[ai];exact U.au.2 rfl
 ·rw[a5 (show¬(a.length:Int)=b.length by omega)];simp only[nN,cond_true,N7,br];refine U.au.2 ?_;congr 1;unfold fm;rcases Nat.lt_or_gt_of_ne ag with h|h
  ·rw[if_pos (by omega),if_pos (wh aG aa tb h)]
  ·have:=wh aa aG ta h;rw[if_neg (by omega),if_pos (by omega),if_neg (by omega),if_pos this]
theorem Re {x y:Int} (ab:0<=x/\x<4294967296) (aB:0<=y/\y<4294967296):0<=x*y/\x*y<=18446744065119617025:=by refine⟨qd ab.1 aB.1,?_⟩;have J:x*y<=4294967295*y:=oF (by omega) aB.1;have R:(4294967295:Int)*y<=4294967295*4294967295:=nf (by omega) (by decide);omega
theorem atf {b AI:List Int} {x:Int} {i N:Nat} (ab:0<=x/\x<4294967296) (aa:bp b) (hi:i+b.length<N) (xi:N<=100000000) (J:AI.length=N) (R:bp AI) (aZ:lV AI (i+b.length)) {b8:kh->Prop} (ar:∀c out,out.length=N->bp out->lV out (i+b.length)->0<=c->c<4294967296->ak out+bm (i+b.length)*c=ak AI+bm i*(x*ak b)->b8 (c,out,())):U (loop (σ:=wM) (ρ:=kh) (fun(y8,m7,vM,_)=>
 bif decide (m7<aW b) then
 (bb b m7).bind fun p8=>
 rd vM (aY ((i:Int)+m7)) fun lM=>
 wr vM (aY ((i:Int)+m7)) (dF (eg IntKind.u64 (bo (bo (bo (bo x*bo p8)+bo lM)+y8)) 4294967295)) fun Bm=>
 (ec IntKind.u64 (bo (bo (bo (bo x*bo p8)+bo lM)+y8)) 32).bind fun ra=>
 some (.inl (ra,bR m7,Bm,())) else
 some (.inr (y8,vM,()))) (0,0,AI,())) b8:=by
 refine U.steps b.length (fun j s=>∃c out,s=(c,(j:Int),out,())/\out.length=N/\bp out/\lV out (i+b.length)/\0<=c/\c<4294967296/\ak out+bm (i+j)*c=ak AI+bm i*(x*ak (b.take j))) ⟨0,AI,rfl,J,R,aZ,by omega,by omega,by simp[ak]⟩ ?_ ?_
 ·rintro j _ al ⟨c,out,rfl,aK,aL,a8,bH,dp,tM⟩;have aB:=aa.get al;have aH:=aL.get (n:=i+j) (by omega);have ao:=Re ab aB;obtain⟨t,af,t0,t1⟩:∃t,t=x*b[j]+out[i+j]+c/\0<=t/\t<18446744073709551616:=⟨_,rfl,by omega,by omega⟩;simp only[bc (show(j:Int)<aW b by simp only[bQ];omega),cond_true,dO al,br];have aC:aY ((i:Int)+(j:Int))=((i+j:Nat):Int):=(by rw[cp (by omega) (by omega)];simp);rw[aC,qU (by omega)];have aV:bo (bo (bo (bo x*bo b[j])+bo out[i+j])+c)=t:=by
   rw[dT (x:=x) (by omega) (by omega),dT (x:=b[j]) (by omega) (by omega),dT (x:=out[i+j]) (by omega) (by omega),dT (x:=x*b[j]) (by omega) (by omega),dT (x:=x*b[j]+out[i+j]) (by omega) (by omega),<-af,dT t0 t1]
  rw[aV,vu t0 t1,sC (by omega),qY];refine U.au.2 ⟨t/4294967296,out.set (i+j) (t %4294967296),by rw[cY (by omega)],by simp[aK],aL.set (by omega) (by omega),a8.abg _ (by omega),by omega,by omega,?_⟩;rw[sA (by omega),show i+(j+1)=(i+j)+1 by omega,iW,jE al];have b4:=kr t 4294967296;rw[DY] at tM|-;generalize t/4294967296=q at*;generalize t %4294967296=r at*;generalize out[i+j]=o at*;generalize b[j]=y at*;subst af;have fo:r=x*y+o+c-4294967296*q:=(by omega);subst fo;grind
 ·rintro _ ⟨c,out,rfl,aK,aL,a8,bH,dp,tM⟩;simp only[a5 (show¬((b.length:Int)<aW b) by simp only[bQ];omega),cond_false];refine U.au.2 (ar c out aK aL a8 bH dp ?_);rw[tM,eC (bS _)]
theorem auv {a b:List Int} (aG:bp a) (aa:bp b) (k3:a.length<=10000000) (gd:b.length<=10000000):JB (a,b,())=some (dd (ak a*ak b).toNat,()):=by
 unfold JB;refine U.eq_iff.1 ?_;simp only[vt];refine U.bP (P:=fun q=>match q with|.inl _=>a≠[]/\b≠[]|.inr r=>r=(dd (ak a*ak b).toNat,())) ?_ ?_
 ·by_cases J:a=[]
  ·simp only[bc J];refine U.au.2 ?_;subst J;simp[ak];rfl
  ·simp only[a5 J,beq_self_eq_true,cond_true];by_cases R:b=[]
   ·simp only[bc R,cond_true];refine U.au.2 ?_;subst R;simp[ak];rfl
   ·simp only[a5 R,cond_false];exact U.au.2 ⟨J,R⟩
 rintro(q|q) ai
 rotate_left
 ·have ai:q=_:=ai;subst ai;exact U.au.2 rfl
 clear ai;dsimp only;have ep:aY (aW a+aW b)=((a.length+b.length:Nat):Int):=(by simp only[bQ];rw[cp (by omega) (by omega)];simp);rw[ep,lE (by omega),Option.bind_some];refine U.bP (P:=fun r=>∃out,r=(out,())/\out.length=a.length+b.length/\bp out/\ak out=ak a*ak b) ?_ ?_
 ·refine U.steps a.length (fun i s=>∃out,s=((i:Int),out,())/\out.length=a.length+b.length/\bp out/\lV out (i+b.length)/\ak out=ak (a.take i)*ak b) ⟨_,rfl,by simp,bp.rb _,lV.rb _ _,by simp[ak,yq]⟩ ?_ ?_
  ·rintro i _ hi ⟨out,rfl,aK,aL,a8,bH⟩;simp only[bc (show(i:Int)<aW a by simp only[bQ];omega),cond_true,dO hi,Option.bind_some];refine U.bP (P:=fun r=>∃c vK,r=(c,vK,())/\vK.length=a.length+b.length/\bp vK/\lV vK (i+b.length)/\0<=c/\c<4294967296/\ak vK+bm (i+b.length)*c=ak out+bm i*(a[i]*ak b)) (atf (aG.get hi) aa (by omega) (by omega) aK aL a8 fun c vK g2 eF vQ Mk Ml RY=>⟨c,vK,rfl,g2,eF,vQ,Mk,Ml,RY⟩) ?_;rintro _ ⟨c,vK,rfl,g2,eF,vQ,Mk,Ml,RY⟩;have aC:aY ((i:Int)+aW b)=((i+b.length:Nat):Int):=(by simp only[bQ];rw[cp (by omega) (by omega)];simp);dsimp only;rw[aC,nK Mk Ml,sC (by omega)];refine U.au.2 ⟨vK.set (i+b.length) c,by rw[cY (by omega)],by simp[g2],eF.set Mk Ml,?_,?_⟩
   ·rw[show i+1+b.length=i+b.length+1 by omega];exact vQ.set _
   ·rw[sA (by omega),vQ _ (bS _) (by omega),jE hi,Int.sub_zero,RY,bH];grind
  ·rintro _ ⟨out,rfl,aK,aL,a8,bH⟩;simp only[a5 (show¬((a.length:Int)<aW a) by simp only[bQ];omega),cond_false];refine U.au.2 ⟨out,rfl,aK,aL,?_⟩;rw[bH,eC (bS _)]
 ·rintro _ ⟨out,rfl,aK,aL,a8⟩;refine U.of_eq (aP (q4 aL (by show out.length<=_;omega)) rfl) ?_;show(iF out,())=_;rw[iF,a8]
theorem anF:∀n:Nat,n<256->t6 LQ (n:Int)=some (a7 n:Int):=by have h:(List.range 256).all (fun n=>t6 LQ (n:Int)==some (a7 n:Int))=true:=(by decide+kernel);intro n ag;have:=fk.1 h n (jl.2 ag);exact eq_of_beq this
theorem SM {x y:Int} (aB:0<=y) (R:y<=32):ec .u32 x y=some (x/2^y.toNat):=by unfold ec;rw[if_pos aB,show IntKind.u32.bits=32 from rfl,iY (by omega),Ig _ (by exact Int.pow_nonneg (by decide))]
theorem abk {x y:Int} (aB:0<=y) (R:y<=32):iE .u32 x y=some ((x*2^y.toNat) %4294967296):=by unfold iE;rw[if_pos aB,Te,show IntKind.u32.bits=32 from rfl,iY (by omega)]
theorem ava {x:Int} (J:0<=x) (R:x<256):IntKind.u8.wrap x=x:=by unfold IntKind.wrap;refine(if_neg (show¬(false&&decide (x %256>=(128:Int)))=true by simp)).trans ?_;show x %256=x;omega
theorem UK {n k:Nat} (h:2^k<=n):a7 n=a7 (n/2^k)+k:=by rw[Et];have:=y4.2 h;omega
theorem Ys {n:Nat} (h:n<4294967296):B6 ((n:Int),())=some ((a7 n:Int),()):=by
 unfold B6;refine U.eq_iff.1 ?_;refine U.bP (P:=fun r=>∃m k:Nat,r=((m:Int),(k:Int),())/\m<65536/\a7 n=a7 m+k/\k<=16) ?_ ?_
 ·simp only[cB];refine U.ite (fun J=>?_) fun J=>?_
  ·rw[SM (by decide) (by decide)];refine U.au.2 ⟨n/2^16,16,?_,by omega,UK (by omega),by omega⟩;simp
  ·exact U.au.2 ⟨n,0,rfl,by omega,rfl,by omega⟩
 rintro _ ⟨m,k,rfl,J,R,ae⟩;refine U.bP (P:=fun r=>∃m k:Nat,r=((m:Int),(k:Int),())/\m<256/\a7 n=a7 m+k/\k<=24) ?_ ?_
 ·simp only[cB];refine U.ite (fun aI=>?_) fun aI=>?_
  ·rw[SM (by decide) (by decide)];refine U.au.2 ⟨m/2^8,k+8,?_,by omega,by have:=UK (n:=m) (k:=8) (by omega);omega,by omega⟩;rw[wrap64 (by omega) (by omega)];simp
  ·exact U.au.2 ⟨m,k,rfl,by omega,R,by omega⟩
 rintro _ ⟨iz,cN,rfl,aI,aX,bI⟩;dsimp only;rw[ava (by omega) (by omega),anF iz aI];refine U.au.2 ?_;have eO:a7 iz<=8:=eo.2 (by omega);rw[wrap64 (x:=(a7 iz:Int)) (by omega) (by omega),wrap64 (by omega) (by omega),aX];congr 1;omega
theorem agL {l:List Int} {x:Int} (ah:bp l) (ab:0<x):a7 (ak l+bm l.length*x).toNat=32*l.length+a7 x.toNat:=by
 obtain⟨n,rfl⟩:=gn (fu ab);obtain⟨v,hv⟩:=gn (e6 ah);have J:=hS ah;rw[hv] at J|-;have ay:bm l.length=((2^(32*l.length):Nat):Int):=(by unfold bm;rw[Nat.pow_mul];simp);rw[ay] at J|-;generalize 32*l.length=k at*;have ag:0<n:=(by omega);have R:((v:Int)+((2^k:Nat):Int)*(n:Int)).toNat=v+2^k*n:=(by rw[<-qe,<-Int.natCast_add];rfl);show a7 ((v:Int)+((2^k:Nat):Int)*(n:Int)).toNat=_;rw[R];obtain⟨dn,dM⟩:=Er ag;have aa:=uD ag;obtain⟨j,al⟩:∃j,a7 n=j+1:=⟨a7 n-1,by omega⟩;show _=k+a7 n;rw[al] at dn dM|-;have lA:v<2^k:=(by omega);refine UJ (k:=k+j) ?_ ?_
 ·rw[lR];have:=Nat.mul_le_mul_left (2^k) dn;simp only[Ee] at this;omega
 ·rw[mC,lR] at*;have:=Nat.mul_le_mul_left (2^k) (show n+1<=2^j*2 by omega);rw[Nat.mul_add,Nat.mul_one,<-yP] at this;omega
theorem QO {l:List Int} (ah:bp l) (af:en l) (ag:l.length<=10000000):B4 (l,())=some ((a7 (ak l).toNat:Int),()):=by
 unfold B4;simp only[vt,cB];split
 ·rename_i h;subst h;rfl
 ·rename_i h;have ay:0<l.length:=List.length_pos_iff.2 h;have aC:aY (aW l-1)=((l.length-1:Nat):Int):=(by simp only[bQ];rw[cp (by omega) (by omega)];omega);rw[aC,dO (by omega)];have ab:=ah.get (n:=l.length-1) (by omega);have aU:l[l.length-1]≠0:=af _ (by rw[List.getLast?_eq_getElem?,ct (by omega)]);have ae:ak l=ak (l.take (l.length-1))+bm (l.length-1)*l[l.length-1]:=by
   rw[<-jE (by omega),eC (by omega)]
  have aI:=agL (l:=l.take (l.length-1)) (x:=l[l.length-1]) (ah.take _) (by omega);rw[fl,iY (by omega),<-ae] at aI;rw[aI];obtain⟨n,iw⟩:=gn ab.1;rw[iw] at ab|-;refine aP rfl (aP (Ys (n:=n) (by omega)) ?_);have aa:a7 n<=32:=eo.2 (by omega);show some (aY (aY (((l.length-1:Nat):Int)*32)+(a7 n:Int)),())=_;rw[cp (x:=((l.length-1:Nat):Int)*32) (by omega) (by omega),cp (by omega) (by omega)];congr 2;show _=((32*(l.length-1)+a7 n:Nat):Int);omega
theorem y3 {z:Int} (aZ:Fit z):uJ (bf z,())=some ((a7 z.natAbs:Int),()):=by unfold uJ;refine aP (abD aZ) (aP (QO (nZ z) (Kw z) (eu aZ (by decide))) ?_);rw[kk];rfl
theorem anY {x t a:Nat} (ab:x=(2*a+1)*2^t) (h:x<2^32):x&&&(2^32-x)=2^t:=by
 have ay:=mD t;have aU:0<x:=(by rw[ab];exact Nat.mul_pos (by omega) ay);obtain⟨y,aB⟩:∃y,x=y+1:=⟨x-1,by omega⟩;have Gd:y=2^t*(2*a)+(2^t-1):=(by have:y+1=2^t*(2*a)+2^t:=(by rw[<-aB,ab];grind);omega);have oY:x=2^t*(2*a+1)+0:=(by rw[ab,oI];rfl);refine Nat.eq_of_testBit_eq fun i=>?_;rw[Nat.testBit_and,aB,Nat.testBit_two_pow_sub_succ (by omega),<-aB];have aC:x.testBit i=if i<t then false else(2*a+1).testBit (i-t):=by rw[oY,Nat.testBit_two_pow_mul_add _ ay];simp
 have aV:y.testBit i=if i<t then(2^t-1).testBit i else(2*a).testBit (i-t):=by rw[Gd,Nat.testBit_two_pow_mul_add _ (by omega)]
 rw[aC,aV,Io];by_cases J:i<t
 ·rw[if_pos J];simp only[Bool.false_and];exact(decide_eq_false (by omega)).symm
 ·rw[if_neg J,if_neg J];by_cases R:t=i
  ·subst R;have ae:t<32:=by
    rcases ch t 32 with ae|ae
    ·exact ae
    ·have:=uw (show 1<=2 by decide) ae;have aI:=jT (2^t) (show 1<=2*a+1 by omega);omega
   simp[ae]
  ·obtain⟨k,ac⟩:∃k,i-t=k+1:=⟨i-t-1,by omega⟩;rw[ac,Nat.testBit_succ,Nat.testBit_succ,show(2*a+1)/2=a by omega,show 2*a/2=a by omega,decide_eq_false R];cases a.testBit k<;>simp
theorem agX:∀t:Nat,t<32->bb sY (2^t*125613361 %4294967296/2^(27:Int).toNat)=some (t:Int):=by have h:(List.range 32).all (fun t=>bb sY (2^t*125613361 %4294967296/2^(27:Int).toNat)==some (t:Int))=true:=(by decide+kernel);intro n ag;have:=fk.1 h n (jl.2 ag);exact eq_of_beq this
theorem abN {n:Nat} (aU:0<n) (h:n<4294967296) (M:Int):dF (eg IntKind.u32 (n:Int) (dF (0-(n:Int)))*M)=2^cF n*M %4294967296:=by obtain⟨a,aG⟩:=Ba aU;have aC:dF (0-(n:Int))=((2^32-n:Nat):Int):=(by rw[wk];omega);have aV:((2^cF n:Nat):Int)=2^cF n:=(by simp);rw[aC,Uc h (by omega),anY aG h,wk,aV]
theorem abO {n:Nat} (aU:0<n) (h:n<4294967296):B7 ((n:Int),())=some ((cF n:Int),()):=by have af:cF n<32:=jn (A9 aU) (eo.2 h);have J:=agX _ af;have R:=SM (x:=dF (eg IntKind.u32 (n:Int) (dF (0-(n:Int)))*125613361)) (y:=27) (by decide) (by decide);rw[abN aU h 125613361] at R;unfold B7;show(bif (n:Int)==0 then some (32,()) else(ec IntKind.u32 (dF (eg IntKind.u32 (n:Int) (dF (0-(n:Int)))*125613361)) 27).bind fun dL=>(bb sY dL).bind fun gk=>some (aY gk,()))=_;rw[df (by rw[e5];exact a5 (by omega)),abN aU h 125613361,R];refine aP rfl (aP J ?_);rw[cp (by omega) (by omega)]
theorem abP {l:List Int} {x:Int} {i:Nat} (aZ:ak (l.take i)=0) (hi:i<l.length) (ah:bp l) (aU:l[i]≠0):cF (ak l).toNat=32*i+cF (l[i]).toNat:=by
 have ab:=ah.get hi;rw[t8 l i (by omega),aZ,nI hi];have hr:=e6 (ah.drop (i+1));generalize ak (l.drop (i+1))=r at*;generalize l[i]=y at*;obtain⟨n,rfl⟩:=gn ab.1;obtain⟨m,rfl⟩:=gn hr;have ag:0<n:=(by omega);obtain⟨a,aG⟩:=Ba ag;have af:cF n<32:=jn (A9 ag) (eo.2 (by omega));have ay:bm i=((2^(32*i):Nat):Int):=(by unfold bm;rw[Nat.pow_mul];simp);have e:(0+bm i*((n:Int)+4294967296*(m:Int))).toNat=(n+4294967296*m)*2^(32*i):=(by rw[ay,Int.zero_add,oI (n+4294967296*m)];have:((2^(32*i):Nat):Int)*((n:Int)+4294967296*(m:Int))=((2^(32*i)*(n+4294967296*m):Nat):Int):=(by rw[qe];simp);rw[this];rfl);show cF (0+bm i*((n:Int)+4294967296*(m:Int))).toNat=32*i+cF n;rw[e,auF (by omega),Nat.add_comm];congr 1;obtain⟨d,aN⟩:∃d,32=cF n+(d+1):=⟨31-cF n,by omega⟩;refine HM (a:=a+2^d*m) ?_;have aV:(4294967296:Nat)=2^cF n*(2^d*2):=by
  have:(4294967296:Nat)=2^32:=rfl;rw[this]
  conv=>lhs;rw[aN]
  rw[lR,mC]
 rw[aV]
 conv=>lhs;lhs;rw[aG]
 grind
theorem abQ {z:Int} (aZ:Fit z) (aU:z≠0):EO (bf z,())=some ((cF z.natAbs:Int),()):=by
 unfold EO;dsimp only;have ah:=nZ z;have hv:=kk z;have ag:(bf z).2.1.length<=31250:=aZ;generalize(bf z).2.1=l at*;have lA:z.natAbs=(ak l).toNat:=(by omega);rw[lA];refine U.eq_iff.1 (U.bP (P:=fun q=>match q with|.inl _=>False|.inr r=>r=((cF (ak l).toNat:Int),())) ?_ ?_)
 ·refine U.steps l.length (fun i s=>s=((i:Int),())/\ak (l.take i)=0) ⟨rfl,rfl⟩ ?_ ?_
  ·rintro i _ hi ⟨rfl,J⟩;have ab:=ah.get hi;simp only[bc (show(i:Int)<aW l by simp only[bQ];omega),cond_true,dO hi,br,ew];by_cases hc:l[i]=0
   ·simp only[bc hc,lN,cond_false];refine U.au.2 ⟨by rw[cY (by omega)],?_⟩;rw[jE hi,hc,J];simp
   ·simp only[a5 hc,nN,cond_true];have R:=abP (x:=0) J hi ah hc;rw[R];obtain⟨n,iw⟩:=gn ab.1;rw[iw] at ab hc|-;have af:cF n<32:=jn (A9 (by omega)) (eo.2 (by omega));refine U.of_eq (aP (abO (n:=n) (by omega) (by omega)) rfl) ?_;show(aY (aY ((i:Int)*32)+(cF n:Int)),())=_;rw[cp (x:=(i:Int)*32) (by omega) (by omega),cp (by omega) (by omega)];congr 1;show _=((32*i+cF n:Nat):Int);omega
  ·rintro _ ⟨rfl,J⟩;exfalso;rw[eC (bS _)] at J;omega
 ·rintro(q|q) ai
  ·exact ai.elim
  ·have ai:q=_:=ai;rw[ai];exact U.au.2 rfl
theorem oo (k:Nat):((2^k:Nat):Int)=(2:Int)^k:=by simp
theorem mi (k:Nat):(0:Int)<2^k:=uh (by decide)
theorem Dq {p:Nat} (h:p<=31):(2:Int)^p<=2147483648:=by have J:=uw (show 0<2 by decide) h;rw[<-oo];omega
theorem AN {p:Nat} (ay:p<=32):(4294967296:Int)=2^p*2^(32-p):=by rw[<-qf,show p+(32-p)=32 by omega];rfl
theorem ud (w:Nat):bm w=2^(32*w):=by unfold bm;rw[Int.pow_mul];rfl
theorem arF {k:Nat} {x y:Int} (ac:k<=32) (J:0<=x) (R:x<2^k) (ae:0<=y) (aX:y<4294967296) (aN:y %2^k=0):fr .u32 x y=x+y/\x+y<4294967296:=by
 have ay:=mi k;have hs:=AN ac;have ai:=mi (32-k);have ao:y=2^k*(y/2^k):=(by have:=kr y (2^k);omega);have cg:y/2^k<2^(32-k):=by
  rcases kJ (y/2^k) (2^(32-k)) with h|h
  ·exact h
  ·have:=nf h (fu ay);omega
 have fb:2^k*(y/2^k+1)<=2^k*2^(32-k):=nf (by omega) (fu ay);have aE:(2:Int)^k*(y/2^k+1)=2^k*(y/2^k)+2^k:=(by grind);have xC:x+y<4294967296:=(by omega);refine⟨?_,xC⟩;obtain⟨n,rfl⟩:=gn J;obtain⟨m,rfl⟩:=gn ae;have ag:n<2^k:=(by have:((n:Nat):Int)<((2^k:Nat):Int):=(by simpa using R);omega);have jw:m %2^k=0:=(by have:((m %2^k:Nat):Int)=0:=(by simpa using aN);omega);rw[arD (by omega) (by omega)];have bI:m=(m/2^k)*2^k:=(by have:=Nat.div_add_mod m (2^k);rw[jw,oI] at this;omega);rw[bI,Uf k ag];simp
theorem M4 {a:List Int} {n:Nat} (aG:bp a) (k3:a.length<=10000000) (ag:n<=100000000):zm (a,(n:Int),())=some (dd (ak a*2^n).toNat,()):=by
 unfold zm;simp only[vt,cB];split
 ·rename_i h;subst h;simp[ak];rfl
 refine U.eq_iff.1 ?_;obtain⟨w,p,hw,ay,ai,hr⟩:∃w p:Nat,n=32*w+p/\p<32/\j8 IntKind.i64 (n:Int) 32=some (w:Int)/\jB (n:Int) 32=some (p:Int):=by
  refine⟨n/32,n %32,by omega,by omega,?_,?_⟩
  ·unfold j8;rw[if_pos (by decide),Ih (by omega),wrap64 (by omega) (by omega)];simp
  ·unfold jB;rw[if_pos (by decide),Ii (by omega)];simp
 have gZ:=mi p;have bB:=AN (p:=p) (by omega);have ep:bR (aY ((w:Int)+aW a))=((w+a.length+1:Nat):Int):=(by simp only[bQ];rw[cp (by omega) (by omega),show(w:Int)+(a.length:Int)=((w+a.length:Nat):Int) by simp,cY (by omega)]);rw[ai,hr,br,br,ep,lE (by omega),br];refine U.bP (P:=fun r=>∃out,r=(out,())/\out.length=w+a.length+1/\bp out/\ak out=bm w*(2^p*ak a)) ?_ ?_
 ·refine U.steps a.length (fun i s=>∃out,s=((i:Int),out,())/\out.length=w+a.length+1/\bp out/\lV out (w+i+1)/\(∀h:w+i<out.length,out[w+i]<2^p)/\ak out=bm w*(2^p*ak (a.take i))) ⟨_,rfl,by simp,bp.rb _,lV.rb _ _,fun h=>by simp;exact gZ,by simp[ak,yq]⟩ ?_ ?_
  ·rintro i _ hi ⟨out,rfl,aK,aL,a8,bH,dp⟩;have ab:=aG.get hi;have aH:=aL.get (n:=w+i) (by omega);have FZ:=bH (by omega);dsimp only;rw[if_pos (show(i:Int)<aW a by simp only[bQ];omega),dO hi,Option.bind_some];have aC:aY ((w:Int)+(i:Int))=((w+i:Nat):Int):=(by rw[cp (by omega) (by omega)];simp);have cg:a[i]*2^p<4294967296*2^p:=Int.mul_lt_mul_of_pos_right ab.2 gZ;have KU:(2:Int)^p<=2147483648:=Dq (by omega);obtain⟨t,af,t0,t1⟩:∃t,t=a[i]*2^p/\0<=t/\t<18446744073709551616:=⟨_,rfl,Int.mul_nonneg ab.1 (Int.le_of_lt gZ),by omega⟩;have aV:iE IntKind.u64 (bo a[i]) (bo (p:Int))=some t:=by
    rw[dT (x:=a[i]) (by omega) (by omega),dT (x:=(p:Int)) (by omega) (by omega),p2 (by omega) (by omega),d4,<-af];congr 1;omega
   have b4:t %4294967296 %2^p=0:=(by rw[Int.emod_emod_of_dvd _ ⟨_,bB⟩,af,Int.mul_emod_left]);have fo:t/4294967296<2^p:=(by refine yE (by decide) ?_;rw[kK];omega);obtain⟨pw,uR⟩:=arF (k:=p) (x:=out[w+i]) (y:=t %4294967296) (by omega) aH.1 FZ (by omega) (by omega) b4;rw[aV];simp only[br];rw[aC,qU (by omega),vu t0 t1,pw,sC (by omega),qY,br,cY (by omega),nK (by omega) (by omega),sC (by simp;omega)];refine U.au.2 ⟨(out.set (w+i) (out[w+i]+t %4294967296)).set (w+i+1) (t/4294967296),by rw[cY (by omega)],by simp[aK],(aL.set (by omega) (by omega)).set (by omega) (by omega),?_,?_,?_⟩
   ·have:=(a8.abg (out[w+i]+t %4294967296) (j:=w+i) (by omega)).set (t/4294967296);exact this
   ·intro h;show((out.set (w+i) (out[w+i]+t %4294967296)).set (w+i+1) (t/4294967296))[w+i+1]'h<2^p
    rw[List.getElem_set_self];exact fo
   ·have z:(out.set (w+i) (out[w+i]+t %4294967296))[w+i+1]'(by simp;omega)=0:=by
     rw[BA (by omega)];exact a8 _ (by omega) (by omega)
    rw[sA (by simp;omega),z,sA (by omega),dp,jE hi,iW,DY];have Kr:=kr t 4294967296;generalize t/4294967296=q at*;generalize t %4294967296=r at*;generalize(2:Int)^p=P at*;generalize a[i]=y at*;generalize out[w+i]=o at*;have uS:r=y*P-4294967296*q:=(by omega);subst uS;grind
  ·rintro _ ⟨out,rfl,aK,aL,a8,bH,dp⟩;dsimp only;rw[if_neg (show¬((a.length:Int)<aW a) by simp only[bQ];omega)];refine U.au.2 ⟨out,rfl,aK,aL,?_⟩;rw[dp,List.take_of_length_le (Nat.le_refl _)]
 ·rintro _ ⟨out,rfl,aK,aL,a8⟩;refine U.of_eq (aP (q4 aL (by show out.length<=_;omega)) rfl) ?_;show(iF out,())=_;rw[iF,a8,ud,hw,qf];congr 3;grind
theorem ahJ {l:List Int} (ah:bp l) (ag:l.length<=10000000):ER (l,(),())=some (decide (ak l≠0),()):=by
 unfold ER;refine U.eq_iff.1 ?_;refine U.bP (P:=fun r=>∃x,r=(x,())/\(0<=x↔ak l≠0)) ?_ ?_
 ·unfold Oj;dsimp only;refine U.bP (P:=fun q=>match q with|.inl _=>ak l=0|.inr r=>0<=r.1/\ak l≠0) ?_ ?_
  ·refine U.steps l.length (fun i s=>s=((i:Int),())/\ak (l.take i)=0) ⟨rfl,rfl⟩ ?_ ?_
   ·rintro i _ hi ⟨rfl,J⟩;have ab:=ah.get hi;simp only[bc (show(i:Int)<aW l by simp only[bQ];omega),cond_true,dO hi,br,Od,ew];by_cases hc:l[i]=0
    ·simp only[bc hc,lN,cond_false];refine U.au.2 ⟨by rw[cY (by omega)],?_⟩;rw[jE hi,hc,J];simp
    ·simp only[a5 hc,nN,cond_true];refine U.au.2 ⟨by show(0:Int)<=(i:Int);omega,?_⟩;rw[t8 l i (by omega),J,nI hi];have R:=e6 (ah.drop (i+1));have ae:0<bm i*(l[i]+4294967296*ak (l.drop (i+1))):=wA (f3 i) (by omega);omega
   ·rintro _ ⟨rfl,J⟩;simp only[a5 (show¬((l.length:Int)<aW l) by simp only[bQ];omega),cond_false];refine U.au.2 ?_;rw[eC (bS _)] at J;exact J
  ·rintro(q|q) ai
   ·have ai:ak l=0:=ai;exact U.au.2 ⟨_,rfl,by rw[ai];simp⟩
   ·obtain⟨J,R⟩:0<=q.1/\ak l≠0:=ai;exact U.au.2 ⟨q.1,rfl,fun _=>R,fun _=>J⟩
 ·rintro _ ⟨x,rfl,ab⟩;refine U.au.2 ?_;show(decide (x>=0),())=_;congr 1;rw[decide_eq_decide];exact ab
theorem Ue (k:Nat) {x:Int} (J:0<=x) (R:x<4294967296) (ac:k<=32):eg .u32 x (2^k-1)=x %2^k:=by obtain⟨n,rfl⟩:=gn J;have ay:0<2^k:=mD k;have ae:(2:Int)^k-1=((2^k-1:Nat):Int):=(by rw[Int.natCast_sub ay];simp);have aI:2^k<=2^32:=uw (by decide) ac;rw[ae,Uc (by omega) (by omega),Nat.and_two_pow_sub_one_eq_mod];simp
theorem Yz {x b y:Int} {P P':Int} (aa:0<b) (ab:0<=x/\x<b) (gZ:0<P):(x+b*y) %(b*P)=0↔x=0/\y %P=0:=by
 constructor
 ·intro h;have J:x=0:=by
   have R:(x+b*y) %b=0:=(by have:=Int.emod_emod_of_dvd (x+b*y) (show b∣b*P from⟨P,rfl⟩);rw[h] at this;simpa using this.symm);rw[D3,yF ab.1 ab.2] at R;exact R
  subst J;rw[Int.zero_add,Int.mul_emod_mul_of_pos _ _ aa] at h;exact⟨rfl,by rcases Int.mul_eq_zero.1 h with ae|ae;omega;exact ae⟩
 ·rintro⟨rfl,h⟩;rw[Int.zero_add,Int.mul_emod_mul_of_pos _ _ aa,h,Int.mul_zero]
theorem Ox {a:List Int} {n:Nat} (aG:bp a) (ta:en a) (k3:a.length<=10000000) (ag:n<=1000000000):B3 (a,(n:Int),())=some (dd (ak a/2^n).toNat,decide (ak a %2^n≠0),()):=by
 unfold B3;dsimp only;refine U.eq_iff.1 ?_;obtain⟨w,p,hw,ay,ai,hr⟩:∃w p:Nat,n=32*w+p/\p<32/\j8 IntKind.i64 (n:Int) 32=some (w:Int)/\jB (n:Int) 32=some (p:Int):=by
  refine⟨n/32,n %32,by omega,by omega,?_,?_⟩
  ·unfold j8;rw[if_pos (by decide),Ih (by omega),wrap64 (by omega) (by omega)];simp
  ·unfold jB;rw[if_pos (by decide),Ii (by omega)];simp
 have gZ:=mi p;have bB:=AN (p:=p) (by omega);have Pn:(2:Int)^n=bm w*2^p:=(by rw[ud,hw,qf]);have ts:=e6 aG;rw[ai,hr,br,br,cB,Pn];refine U.ite (fun h=>?_) fun h=>?_
 ·have h:a.length<=w:=(by simp only[bQ] at h;omega);have J:=hS aG;have R:=sl h;have ae:bm w*1<=bm w*2^p:=nf (by omega) (fu (f3 w));rw[ue ts (by omega),yF ts (by omega)];refine U.au.2 ?_;show(([]:List Int),decide (aW a>0),())=(dd 0,_,());rw[VI];congr 2;rw[decide_eq_decide];simp only[bQ];constructor
  ·intro aI aX;have:=en.zero aG ta aX;rw[this] at aI;simp at aI
  ·intro aI;have:a≠[]:=fun e=>(by rw[e] at aI;exact aI rfl);have:=List.length_pos_iff.2 this;omega
 ·have h:w<a.length:=(by simp only[bQ] at h;omega);have ab:=aG.get h;obtain⟨X,h3⟩:∃X,X=ak (a.drop w):=⟨_,rfl⟩;have td:0<=X:=(by rw[h3];exact e6 (aG.drop w));have ly:ak a=ak (a.take w)+bm w*X:=(by rw[h3];exact t8 a w (by omega));have fR:=e6 (aG.take w);have u9:=hS (aG.take w);rw[fl,iY (by omega)] at u9;have Pp:ak a/(bm w*2^p)=X/2^p:=by
   rw[<-yD (fu (f3 w)),ly,Bw _ _ (by have:=f3 w;omega),ue fR u9,Int.zero_add]
  refine U.bP (P:=fun r=>r=(decide (ak a %(bm w*2^p)≠0),())) ?_ ?_
  ·rw[MR (by omega),br];have aC:List.drop 0 (List.take w a)=a.take w:=rf;show U ((ER (List.drop 0 (List.take w a),(),())).bind _) _;rw[aC,ahJ (aG.take w) (by simp;omega),br];have ah:(decide (ak a %(bm w*2^p)≠0))=(decide (ak (a.take w)≠0)||decide (a[w] %2^p≠0)):=by
    have J:=Yz (x:=ak (a.take w)) (b:=bm w) (y:=X) (P:=2^p) (P':=0) (f3 w) ⟨fR,u9⟩ gZ;rw[<-ly] at J;have R:X %2^p=a[w] %2^p:=(by rw[h3,nI h,bB,ug,D3]);rw[R] at J;by_cases bT:ak (a.take w)=0<;>by_cases bz:a[w] %2^p=0<;>simp[bT,bz,J]
   rw[ah];dsimp only;by_cases bT:ak (a.take w)=0
   ·simp only[a5 (show¬(ak (a.take w)≠0) from fun h=>h bT),beq_self_eq_true,cond_true,dO h,br];rw[dT (x:=(p:Int)) (by omega) (by omega),abk (by omega) (by omega),br,d4,Int.one_mul];have KU:(2:Int)^p<=2147483648:=Dq (by omega);rw[yF (by omega) (by omega),nK (by omega) (by omega),Ue p ab.1 ab.2 (by omega),ew];refine U.au.2 ?_;simp
   ·simp only[bc (show ak (a.take w)≠0 from bT)];exact U.au.2 rfl
  rintro _ rfl;dsimp only;obtain⟨m,ao⟩:∃m,a.length=w+m:=⟨a.length-w,by omega⟩;have ep:aY (aW a-(w:Int))=((m:Nat):Int):=(by simp only[bQ];rw[cp (by omega) (by omega)];omega);rw[ep,lE (by omega),Option.bind_some];have akE:X<bm m:=(by have:=hS (aG.drop w);rw[List.length_drop,show a.length-w=m by omega,<-h3] at this;exact this);refine U.bP (P:=fun r=>∃out,r=(out,())/\out.length=m/\bp out/\ak out=X/2^p) ?_ ?_
  ·refine U.steps m (fun i s=>∃out,s=((i:Int),out,())/\out.length=m/\bp out/\ak (out.take i)+bm i*(X/2^p/bm i)=X/2^p) ⟨_,rfl,by simp,bp.rb _,by simp[ak,DZ]⟩ ?_ ?_
   ·rintro i _ hi ⟨out,rfl,aK,aL,a8⟩;have ab:=aG.get (n:=w+i) (by omega);have aB:=aG.getD (w+i+1);have ah:decide ((i:Int)<aW (List.replicate m (0:Int)))=true:=bc (by simp only[bQ,uu];omega);have aC:aY ((w:Int)+(i:Int))=((w+i:Nat):Int):=(by rw[cp (by omega) (by omega)];simp);have aV:bR ((w+i:Nat):Int)=((w+i+1:Nat):Int):=cY (by omega);simp only[ah,cond_true,aC,aV,dO (show w+i<a.length by omega),br];obtain⟨t,af,t0,t1⟩:∃t,t=a[w+i]+4294967296*a.getD (w+i+1) 0/\0<=t/\t<18446744073709551616:=⟨_,rfl,by omega,by omega⟩;have bd:X/bm i=t+4294967296*(4294967296*ak (a.drop (w+i+2))):=by
     have J:a.drop w=(a.drop w).take i++a.drop (w+i):=by
      conv=>lhs;rw[<-pf i (a.drop w)]
      rw[uj]
     have R:X=ak ((a.drop w).take i)+bm i*ak (a.drop (w+i)):=by
      rw[h3]
      conv=>lhs;rw[J]
      rw[sz,fl,pe,iY (by omega)]
     have ae:=e6 ((aG.drop w).take i);have aI:=hS ((aG.drop w).take i);rw[fl,pe,iY (by omega)] at aI;have aX:ak (a.drop (w+i))=a[w+i]+4294967296*ak (a.drop (w+i+1)):=nI (by omega);have bI:ak (a.drop (w+i+1))=a.getD (w+i+1) 0+4294967296*ak (a.drop (w+i+2)):=by
      rcases ch (w+i+1) a.length with g|g
      ·rw[mN g];exact nI g
      ·rw[s6 g,uk g,uk (by omega)];rfl
     rw[R,Bw _ _ (by have:=f3 i;omega),ue ae aI,aX,bI,af];grind
    have KY:X/2^p/bm i %4294967296=t/2^p %4294967296:=(by have J:X/2^p/bm i=X/bm i/2^p:=(by rw[yD (fu gZ),yD (fu (f3 i)),kK]);rw[J,bd];have R:∀Y:Int,t+4294967296*(4294967296*Y)=t+2^p*(4294967296*(2^(32-p)*Y)):=fun Y=>(by generalize(2:Int)^p=P at*;generalize(2:Int)^(32-p)=P' at*;rw[show(4294967296:Int)*(4294967296*Y)=(P*P')*(4294967296*Y) by rw[<-bB]];grind);rw[R,Bw _ _ (by omega),D3]);have iP:0<=t/2^p:=qc t0 (fu gZ);have pK:t/2^p<=t:=Bx _ t0;refine U.bP (P:=fun r=>r=(out.set i (t/2^p %4294967296),())) ?_ ?_
    ·refine U.bP (P:=fun r=>r=(t,out,())) ?_ ?_
     ·simp only[cB];refine U.ite (fun g=>?_) fun g=>?_
      ·have g:w+i+1<a.length:=(by simp only[bQ] at g;omega);rw[dO g,br,dT (x:=a[w+i+1]) (by have:=aG.get g;omega) (by have:=aG.get g;omega),p2 (by decide) (by decide)];rw[mN g] at af aB;have pw:a[w+i+1]*2^(32:Int).toNat %18446744073709551616=4294967296*a[w+i+1]:=by
        rw[show(2:Int)^(32:Int).toNat=4294967296 from rfl];omega
       rw[br,pw,dT (by omega) (by omega),o5 32 ab.1 ab.2 (by omega) (by omega) (by omega) (by omega)];refine U.au.2 ?_;rw[<-af]
      ·have g:a.length<=w+i+1:=(by simp only[bQ] at g;omega);rw[s6 g] at af;rw[dT (by omega) (by omega)];refine U.au.2 ?_;rw[af];simp
     ·rintro _ rfl;dsimp only;rw[dT (x:=(p:Int)) (by omega) (by omega),yi (by omega) (by omega),Option.bind_some,Int.toNat_natCast,vu iP (by omega),sC (by omega)];exact U.au.2 rfl
    ·rintro _ rfl;dsimp only;refine U.au.2 ⟨out.set i (t/2^p %4294967296),by rw[cY (by omega)],by simp[aK],aL.set (by omega) (by omega),?_⟩;rw[jE (by simp;omega)];simp only[List.getElem_set_self];rw[List.take_set_of_le (by omega),<-KY,iW,Int.mul_comm 4294967296 (bm i),<-Int.ediv_ediv_of_nonneg (Int.le_of_lt (f3 i))];have eO:=Int.emod_add_mul_ediv (X/2^p/bm i) 4294967296;generalize X/2^p/bm i %4294967296=r at*;generalize X/2^p/bm i/4294967296=q at*;rw[<-eO] at a8;grind
   ·rintro _ ⟨out,rfl,aK,aL,a8⟩;simp only[a5 (show¬((m:Int)<aW (List.replicate m (0:Int))) by simp only[bQ,uu];omega),cond_false];refine U.au.2 ⟨out,rfl,aK,aL,?_⟩;have J:0<=X/2^p:=qc td (fu gZ);have R:X/2^p<=X:=Bx _ td;rw[ue J (by omega),eC (by omega)] at a8;simpa using a8
  ·rintro _ ⟨out,rfl,aK,aL,a8⟩;refine U.of_eq (aP (q4 aL (by show out.length<=_;omega)) rfl) ?_;show(iF out,_,())=_;rw[iF,a8,Pp]
section
theorem Hh (k:IntKind) (x y:Int):fr k x y=fr k y x:=by unfold fr;rw[BitVec.or_comm]
theorem S4 {x y:Int} (ab:0<=x/\x<4294967296) (aB:0<=y/\y<4294967296):iE .u64 x 32=some (4294967296*x)/\fr .u64 (4294967296*x) (bo y)=4294967296*x+y:=by
 constructor
 ·rw[p2 (by decide) (by decide),show(2:Int)^(32:Int).toNat=4294967296 from rfl];congr 1;omega
 ·rw[dT aB.1 (by omega),Hh,o5 32 aB.1 aB.2 (by omega) (by omega) (by omega) (by omega),Int.add_comm]
theorem R8 {x y:Int} (ab:0<=x/\x<18446744073709551616) (aB:0<y):j8 .u64 x y=some (x/y)/\jB x y=some (x %y):=by
 constructor
 ·unfold j8;rw[if_pos (by omega),Ih ab.1];have J:x/y<=x:=Bx _ ab.1;have R:0<=x/y:=qc ab.1 (by omega);rw[Na R (by omega)]
 ·unfold jB;rw[if_pos (by omega),Ii ab.1]
theorem atP {a:List Int} {d:Int} (aG:bp a) (k3:a.length<=10000000) (aN:0<d) (kw:d<4294967296):JA (a,d,())=some (dd (ak a/d).toNat,ak a %d,()):=by
 unfold JA;refine U.eq_iff.1 ?_;simp only[bQ,lE (show a.length<=4294967296 by omega),br];refine U.bP (P:=fun r=>∃out,r=(ak a %d,out,())/\out.length=a.length/\bp out/\ak out=ak a/d) ?_ ?_
 ·refine U.steps a.length (fun i s=>∃out,s=(ak (a.drop (a.length-i)) %d,((a.length:Nat):Int)-1-i,out,())/\out.length=a.length/\bp out/\(∀k,k<a.length-i->(ac:k<out.length)->out[k]=0)/\ak out=bm (a.length-i)*(ak (a.drop (a.length-i))/d)) ⟨List.replicate a.length 0,?_,by simp,bp.rb _,by simp,?_⟩ ?_ ?_
  ·rw[cp (by omega) (by omega),uk (by omega)];simp[ak]
  ·rw[uk (by omega)];simp[ak,yq]
  ·rintro i _ hi ⟨out,rfl,aK,aL,a8,bH⟩;obtain⟨k,ac⟩:∃k,a.length=k+1+i:=⟨a.length-1-i,by omega⟩;have aC:((a.length:Nat):Int)-1-(i:Int)=(k:Int):=(by omega);have pM:k<a.length:=(by omega);rw[show a.length-i=k+1 by omega] at*;have ab:=aG.get pM;obtain⟨X,h3⟩:∃X,X=ak (a.drop (k+1)):=⟨_,rfl⟩;have td:0<=X:=(by rw[h3];exact e6 (aG.drop _));rw[<-h3] at bH|-;have qF:0<=X %d:=uf _ (by omega);have lx:X %d<d:=wy _ aN;obtain⟨t1,t2⟩:=S4 (x:=X %d) (y:=a[k]) ⟨qF,by omega⟩ ab;obtain⟨t3,t4⟩:=R8 (x:=4294967296*(X %d)+a[k]) (y:=d) ⟨by omega,by omega⟩ aN;have ai:(4294967296*(X %d)+a[k])/d<4294967296:=by
    refine yE aN ?_;have:4294967296*(X %d)+a[k]<4294967296*(X %d+1):=(by omega);have R:4294967296*(X %d+1)<=4294967296*d:=(by omega);omega
   have iP:0<=(4294967296*(X %d)+a[k])/d:=qc (by omega) (by omega);simp only[aC,bc (show(k:Int)>=0 by omega),cond_true,dO pM,t1,br];rw[t2,dT (x:=d) (by omega) (by omega),t3,br,nK iP ai,sC (by omega),t4,br];have l6:=kr X d;have hv:ak (a.drop k)=a[k]+4294967296*X:=(by rw[h3];exact nI pM);have ao:ak (a.drop k)=(4294967296*(X %d)+a[k])+d*(4294967296*(X/d)):=(by rw[hv];generalize X/d=q at*;generalize X %d=r at*;rw[<-l6];grind);refine U.au.2 ⟨out.set k ((4294967296*(X %d)+a[k])/d),?_,by simp[aK],aL.set iP ai,?_,?_⟩
   ·rw[show a.length-(i+1)=k by omega,cp (by omega) (by omega),ao,D3];congr 2;omega
   ·intro bE J R;rw[BA (by omega)];exact a8 bE (by omega) (by simpa using R)
   ·rw[show a.length-(i+1)=k by omega,ao,Bw _ _ (by omega),sA (by omega),a8 k (by omega) (by omega),bH,iW];grind
  ·rintro _ ⟨out,rfl,aK,aL,a8,bH⟩;have aC:¬(((a.length:Nat):Int)-1-(a.length:Int)>=0):=(by omega);simp only[a5 aC,cond_false];rw[Nat.sub_self] at bH;refine U.au.2 ⟨out,by simp,aK,aL,?_⟩;rw[bH,DZ];simp
 ·rintro _ ⟨out,rfl,aK,aL,a8⟩;have J:ak a %d<d:=wy _ aN;have aU:0<=ak a %d:=uf _ (by omega);refine U.of_eq (aP (q4 aL (by show out.length<=_;omega)) rfl) ?_;show(iF out,dF (ak a %d),())=_;rw[iF,a8,nK aU (by omega)]
section
variable {α aR:Type}
theorem uA {A w C:List α} {k:Nat} (h:k<w.length) (f:α->Option aR):cy (A++(w++C)) (A.length+k) f=f w[k]:=by refine uB ?_;rw[uo (by omega),sO,sL h,ct h]
theorem MP {A w C:List α} {k:Nat} (h:k<w.length) (x:α):(A++(w++C)).set (A.length+k) x=A++(w.set k x++C):=by rw[List.set_append_right _ _ (by omega),sO,List.set_append_left _ _ h]
end
theorem aiU {q v1 f0 V li top gg W sT Ej:Int} (lv:0<W) (c6:V=(v1*4294967296+f0)*W+sT) (zV:li=(top*4294967296+gg)*W+Ej) (WB:0<=sT) (akC:Ej<W) (aU:0<=q) (h:(top-q*v1)*4294967296+gg<q*f0):li<q*V:=by have J:top*4294967296+gg+1<=q*(v1*4294967296+f0):=(by grind);have R:(top*4294967296+gg+1)*W<=q*(v1*4294967296+f0)*W:=oF J (by omega);have ae:0<=q*sT:=qd aU WB;have aI:q*V=q*(v1*4294967296+f0)*W+q*sT:=(by rw[c6];grind);have aX:(top*4294967296+gg+1)*W=(top*4294967296+gg)*W+W:=(by grind);omega
theorem aiV {q v1 f0 V li top gg W sT Ej:Int} (lv:0<W) (c6:V=(v1*4294967296+f0)*W+sT) (zV:li=(top*4294967296+gg)*W+Ej) (WB:0<=sT/\sT<W) (akC:0<=Ej) (aU:0<=q/\q<4294967296) (Lp:1<=v1) (lA:0<=f0) (h:q*f0<=(top-q*v1)*4294967296+gg):q*V<li+V:=by have J:q*(v1*4294967296+f0)<=top*4294967296+gg:=(by grind);have R:q*(v1*4294967296+f0)*W<=(top*4294967296+gg)*W:=oF J (by omega);have ae:q*sT<=q*W:=nf (by omega) aU.1;have aI:q*V=q*(v1*4294967296+f0)*W+q*sT:=(by rw[c6];grind);have aX:q*W<=4294967295*W:=oF (by omega) (by omega);have bI:4294967296*W<=(v1*4294967296+f0)*W:=oF (by omega) (by omega);omega
end
theorem Tc {l:List Int} {m:Nat} (h:l.length=m+2):ak l=(l[m+1]*4294967296+l[m])*bm m+ak (l.take m):=by have J:ak l=ak (l.take (m+1))+bm (m+1)*l[m+1]:=(by rw[<-jE (by omega),eC (by omega)]);rw[J,jE (by omega),iW];grind
theorem auU {l:List Int} {m:Nat} (h:l.length=m+3):ak l=((l[m+2]*4294967296+l[m+1])*4294967296+l[m])*bm m+ak (l.take m):=by have J:ak l=ak (l.take (m+2))+bm (m+2)*l[m+2]:=(by rw[<-jE (by omega),eC (by omega)]);rw[J,jE (by omega),jE (by omega)];simp only[iW];grind
structure D1 (v w:List Int) (n:Nat):Prop where
 hv:bp v
 hw:bp w
 yr:v.length=n+2
 wn:w.length=n+3
 L6:n<=10000000
 top:2147483648<=v[n+1]
 lt:ak w<4294967296*ak v
theorem D1.ab4 {v w:List Int} {n:Nat} (h:D1 v w n):0<ak v:=by
 have J:=Tc h.yr;have R:=e6 (h.hv.take n);have ae:=h.hv.get (n:=n) (by have:=h.yr;omega);have aI:=h.top;have aX:0<(v[n+1]'(by have:=h.yr;omega)*4294967296+v[n]'(by have:=h.yr;omega))*bm n:=wA (by omega) (f3 n)
 omega
theorem aiW {A w C v:List Int} {n:Nat} (h:D1 v w n) {lG AQ:Int} (ai:lG=(4294967296*w[n+2]'(by have:=h.wn;omega)+w[n+1]'(by have:=h.wn;omega))/v[n+1]'(by have:=h.yr;omega)) (hr:AQ=(4294967296*w[n+2]'(by have:=h.wn;omega)+w[n+1]'(by have:=h.wn;omega)) %v[n+1]'(by have:=h.yr;omega)):U (loop (σ:=(axM×Int×Int×bO×Unit)) (ρ:=(axM×Int×bO×Unit)) (fun(p4,sm,AX,wc,_)=>
 Option.bind (α:=(axM×bO×Unit)⊕((axM×Int×Int×bO×Unit)⊕(axM×Int×bO×Unit))) (bif decide (sm>4294967295)==false then(bb v (aY (aW v-2))).bind fun wo=>
 (iE IntKind.u64 AX 32).bind fun t9=>
 (cV (p4.2-p4.1) (aY (aW v-2))).bind fun Qz=>
 (cy wc (p4.1+Qz) fun Fl=>some Fl).bind fun jG=>
  bif decide (bo (sm*bo wo)>fr IntKind.u64 t9 (bo jG)) then
 some (.inl (p4,wc,())) else
 some (.inr (.inr (p4,sm,wc,()))) else some (.inl (p4,wc,()))) fun q=>match q with
 |.inl (HO,HP,_)=>(
 (
  bb v (aY (aW v-1))).bind fun ua=>
  bif decide (bo (AX+bo ua)>4294967295) then
 some (.inr (HO,bo (sm-1),HP,())) else
 some (.inl (HO,bo (sm-1),bo (AX+bo ua),HP,())))
 |.inr r=>some r) ((A.length,A.length+w.length),lG,AQ,A++(w++C),())) (fun r=>∃q,r=((A.length,A.length+w.length),q,A++(w++C),())/\0<=q/\q<4294967296/\ak w/ak v<=q/\q*ak v<ak w+ak v):=by
 have oc:=h.yr;have CQ:=h.wn;have vb:=h.L6;have rT:=h.ab4;have CR:=h.hv.get (n:=n+1) (by omega);have oY:=h.hv.get (n:=n) (by omega);have tn:=h.hw.get (n:=n+2) (by omega);have r1:=h.hw.get (n:=n+1) (by omega);have tp:=h.hw.get (n:=n) (by omega);have Lo:=h.top;have OE:=Tc oc;have Kt:=auU CQ;have cq:=e6 (h.hv.take n);have dv:=hS (h.hv.take n);have a3:=e6 (h.hw.take n);have a4:=hS (h.hw.take n);rw[fl,iY (by omega)] at dv a4;have cg:=h.lt;have lv:=f3 n;have aC:aY (aW v-1)=((n+1:Nat):Int):=(by simp only[bQ];rw[cp (by omega) (by omega)];omega);have aV:aY (aW v-2)=((n:Nat):Int):=(by simp only[bQ];rw[cp (by omega) (by omega)];omega);have bT:bb v ((n+1:Nat):Int)=some v[n+1]:=dO (by omega);have bz:bb v ((n:Nat):Int)=some v[n]:=dO (by omega);have cZ:∀f:Int->Option Int,cy (A++(w++C)) (A.length+n) f=f w[n]:=fun f=>uA (by omega) f;generalize Lp:v[n+1]=v1 at*;generalize lA:v[n]=f0 at*;generalize awS:w[n+2]=hq at*;generalize r4:w[n+1]=p3 at*;generalize XD:w[n]=gg at*;obtain⟨hG,Xx⟩:∃hG,hG=4294967296*hq+p3:=⟨_,rfl⟩;rw[<-Xx] at ai hr;have Kt:ak w=(hG*4294967296+gg)*bm n+ak (w.take n):=(by rw[Kt,Xx];grind);have fb:hq<=v1:=by
  rcases kJ v1 hq with g|g
  ·exfalso;have dn:(v1*4294967296+f0+1)*bm n<=(v1*4294967296+4294967296)*bm n:=oF (by omega) (by omega);have dM:((v1+1)*4294967296*4294967296)*bm n<=(hG*4294967296+gg)*bm n:=oF (by omega) (by omega);have hL:(v1*4294967296+f0+1)*bm n=(v1*4294967296+f0)*bm n+bm n:=(by grind);have jI:((v1+1)*4294967296*4294967296)*bm n=4294967296*((v1*4294967296+4294967296)*bm n):=(by grind);omega
  ·exact g
 have awh:0<=ak w/ak v:=qc (e6 h.hw) (by omega);have awi:ak w/ak v<4294967296:=yE rT cg;have amp:0<=hG:=(by omega);have FP:=kr hG v1;have qF:0<=hG %v1:=uf _ (by omega);have lx:hG %v1<v1:=wy _ (by omega);have iP:0<=hG/v1:=qc amp (by omega);have agG:∀q,0<=q->(hG-q*v1)*4294967296+gg<q*f0->ak w/ak v<q:=fun q ai h=>(by have:=aiU lv OE Kt cq a4 ai h;exact yE rT this);have fP:∀q,0<=q->q<4294967296->q*f0<=(hG-q*v1)*4294967296+gg->q*ak v<ak w+ak v:=fun q J R h=>aiV lv OE Kt ⟨cq,dv⟩ a3 ⟨J,R⟩ (by omega) oY.1 h;refine U.loop (fun s=>∃q r,s=((A.length,A.length+w.length),q,r,A++(w++C),())/\0<=q/\q<=4294967297/\0<=r/\r<4294967296/\r=hG-q*v1/\ak w/ak v<=q) (fun s=>s.2.1.toNat) ⟨lG,AQ,rfl,by omega,?_,by omega,by omega,?_,?_⟩ ?_
 ·rw[ai];have:hG<4294967298*v1:=(by omega);have:=yE (by omega) this;omega
 ·rw[ai,hr,kK];omega
 ·rcases kJ (hG/v1) (ak w/ak v) with g|g
  ·exfalso;have dn:(hG/v1+1)*ak v<=ak w:=by
    have c4:(hG/v1+1)*ak v<=ak w/ak v*ak v:=oF (by omega) (by omega);have cd:=kr (ak w) (ak v);have i5:=uf (ak w) (show ak v≠0 by omega);rw[kK (ak w/ak v)] at c4;omega
   have dM:(hG+1)*4294967296<=(hG/v1+1)*(v1*4294967296):=(by have:(hG/v1+1)*(v1*4294967296)=(v1*(hG/v1)+v1)*4294967296:=(by grind);omega);have hL:(hG+1)*4294967296*bm n<=(hG/v1+1)*(v1*4294967296)*bm n:=oF dM (by omega);have jI:0<=(hG/v1+1)*(f0*bm n+ak (v.take n)):=qd (by omega) (by have:=qd oY.1 (fu lv);omega);have BN:(hG/v1+1)*ak v=(hG/v1+1)*(v1*4294967296)*bm n+(hG/v1+1)*(f0*bm n+ak (v.take n)):=(by rw[OE];grind);have av4:(gg+1)*bm n<=4294967296*bm n:=oF (by omega) (by omega);have av5:(hG*4294967296+gg)*bm n+bm n=hG*4294967296*bm n+(gg+1)*bm n:=(by grind);have av6:(hG+1)*4294967296*bm n=hG*4294967296*bm n+4294967296*bm n:=(by grind);omega
  ·rw[ai];exact g
 rintro _ ⟨q,r,rfl,c4,cd,i5,lW,ry,ag4⟩;have ao:∀q,(q-1)*v1=q*v1-v1:=fun q=>(by grind);have dec:ak w/ak v<q->U ((bb v (aY (aW v-1))).bind fun ua=>
  bif decide (bo (r+bo ua)>4294967295) then
 some (.inr ((A.length,A.length+w.length),bo (q-1),A++(w++C),())) else
 some (
  .inl ((A.length,A.length+w.length),bo (q-1),bo (r+bo ua),A++(w++C),()))) (fun(x:(axM×Int×Int×bO×Unit)⊕(axM×Int×bO×Unit))=>match x with
  |.inl s'=>(∃q r,s'=((A.length,A.length+w.length),q,r,A++(w++C),())/\0<=q/\q<=4294967297/\0<=r/\r<4294967296/\r=hG-q*v1/\ak w/ak v<=q)/\s'.2.1.toNat<q.toNat
  |.inr r=>∃q,r=((A.length,A.length+w.length),q,A++(w++C),())/\0<=q/\q<4294967296/\ak w/ak v<=q/\q*ak v<ak w+ak v):=by
  intro PR;rw[aC,bT,br,dT (x:=v1) (by omega) (by omega),dT (x:=r+v1) (by omega) (by omega),dT (x:=q-1) (by omega) (by omega),cB];refine U.ite (fun g=>?_) fun g=>?_
  ·refine U.au.2 ⟨q-1,rfl,by omega,?_,by omega,?_⟩
   ·rcases kJ (q-1) 4294967296 with k|k
    ·exact k
    ·exfalso;have:=oF k (show 0<=v1 by omega);rw[ao] at this;omega
   ·have aa:q-1<4294967296:=by
     rcases kJ (q-1) 4294967296 with k|k
     ·exact k
     ·exfalso;have:=oF k (show 0<=v1 by omega);rw[ao] at this;omega
    refine fP (q-1) (by omega) aa ?_;rw[ao];have bu:(q-1)*f0<=4294967295*f0:=oF (by omega) oY.1;omega
  ·refine U.au.2 ⟨⟨q-1,r+v1,rfl,by omega,by omega,by omega,by omega,?_,by omega⟩,?_⟩
   ·rw[ao];omega
   ·show(q-1).toNat<q.toNat;omega
 by_cases K0:q>4294967295
 ·simp only[bc K0,show(true==false)=false from rfl,cond_false,br];refine(dec (by omega)).mono ?_;rintro(y|y) aB
  ·exact aB
  ·exact aB
 ·simp only[a5 K0,beq_self_eq_true,cond_true,aV,bz,br];obtain⟨t1,t2⟩:=S4 (x:=r) (y:=gg) ⟨i5,lW⟩ tp;have mT:=Re (x:=q) (y:=f0) ⟨c4,by omega⟩ oY;rw[t1,br];simp only[sO,iR (show n<w.length by omega),br,cZ,t2];rw[dT (x:=f0) (by omega) (by omega),dT (x:=q*f0) (by omega) (by omega)];by_cases hc:q*f0>4294967296*r+gg
  ·simp only[bc hc,cond_true,br];refine(dec (agG q c4 (by rw[<-ry];omega))).mono ?_;rintro(y|y) aB
   ·exact aB
   ·exact aB
  ·simp only[a5 hc,cond_false,br];exact U.au.2 ⟨q,rfl,c4,by omega,ag4,fP q c4 (by omega) (by rw[<-ry];omega)⟩
theorem aug {A w C v:List Int} {q:Int} (hv:bp v) (hw:bp w) (ag:v.length<w.length) (xi:w.length<=100000000) (ai:0<=q/\q<4294967296) {b8:(axM×Int×Int×bO×Unit)->Prop} (ar:∀c b w',w'.length=w.length->bp w'->(∀(h:v.length<w'.length) (R:v.length<w.length),w'[v.length]=w[v.length])->0<=c->c<4294967296->0<=b->b<=1->ak w'-bm v.length*(c+b)=ak w-q*ak v->b8 ((A.length,A.length+w.length),c,b,A++(w'++C),())):U (loop (σ:=(axM×Int×Int×Int×bO×Unit)) (ρ:=(axM×Int×Int×bO×Unit)) (fun(lJ,uE,y6,p0,wd,_)=>
 bif decide (p0<aW v) then
 (bb v p0).bind fun lM=>
 (ec IntKind.u64 (bo (bo (q*bo lM)+uE)) 32).bind fun HZ=>
 (cV (lJ.2-lJ.1) p0).bind fun QA=>
 (cy wd (lJ.1+QA) fun Fo=>some Fo).bind fun ra=>
 (cV (lJ.2-lJ.1) p0).bind fun Gv=>
 (cy wd (lJ.1+Gv) fun _=>some (wd.set (lJ.1+Gv) (dF (eg IntKind.u64 (bo (bo (bo ra-eg IntKind.u64 (bo (bo (q*bo lM)+uE)) 4294967295)-y6)) 4294967295)))).bind fun Tq=>
 (ec IntKind.u64 (bo (bo (bo ra-eg IntKind.u64 (bo (bo (q*bo lM)+uE)) 4294967295)-y6)) 32).bind fun Tk=>
 some (.inl (lJ,HZ,eg IntKind.u64 Tk 1,bR p0,Tq,())) else
 some (.inr (lJ,uE,y6,wd,()))) ((A.length,A.length+w.length),0,0,0,A++(w++C),())) b8:=by
 refine U.steps v.length (fun i s=>∃c b w',s=((A.length,A.length+w.length),c,b,(i:Int),A++(w'++C),())/\w'.length=w.length/\bp w'/\(∀k,i<=k->(h:k<w'.length)->(R:k<w.length)->w'[k]=w[k])/\0<=c/\c<4294967296/\0<=b/\b<=1/\ak w'-bm i*(c+b)=ak w-q*ak (v.take i)) ⟨0,0,w,rfl,rfl,hw,fun _ _ _ _=>rfl,by omega,by omega,by omega,by omega,by simp[ak]⟩ ?_ ?_
 ·rintro i _ hi ⟨c,b,w',rfl,J,R,ae,aI,aX,bI,eO,s8⟩;have ab:=hv.get hi;have aB:=R.get (n:=i) (by omega);have ao:=Re ai ab;obtain⟨p,ay,tJ,g2⟩:∃p,p=q*v[i]+c/\0<=p/\p<18446744073709551616:=⟨_,rfl,by omega,by omega⟩;simp only[bc (show(i:Int)<aW v by simp only[bQ];omega),cond_true,dO hi,br];have aC:bo (bo (q*bo v[i])+c)=p:=by
   rw[dT (x:=v[i]) (by omega) (by omega),dT (x:=q*v[i]) (by omega) (by omega),<-ay,dT tJ g2]
  rw[aC];obtain⟨d,aN,cJ,cz⟩:∃d,d=w'[i]-p %4294967296-b/\-4294967296<=d/\d<4294967296:=⟨_,rfl,by omega,by omega⟩;have aV:bo (bo (bo w'[i]-eg IntKind.u64 p 4294967295)-b)=d %18446744073709551616:=(by rw[and_low32 tJ g2,o9,o9,o9,aN];omega);have aK:d %18446744073709551616/4294967296 %2^1=-(d/4294967296):=(by rw[show(2:Int)^1=2 from rfl];omega);have aL:d %18446744073709551616 %4294967296=d %4294967296:=(by omega);simp only[qY,sO,iR (show i<w.length by omega),br,uA (show i<w'.length by omega),aV,vu (show 0<=d %18446744073709551616 by omega) (by omega),MP (show i<w'.length by omega)];rw[wN 1 (by omega) (by omega) 1 (by decide) (by decide),aK,aL];refine U.au.2 ⟨p/4294967296,-(d/4294967296),w'.set i (d %4294967296),by rw[cY (by omega)],by simp[J],R.set (by omega) (by omega),?_,by omega,by omega,by omega,by omega,?_⟩
  ·intro k bu bE cl;rw[BA (by omega)];exact ae k (by omega) (by omega) cl
  ·rw[sA (by omega),iW,jE hi];have f1:=kr d 4294967296;have cC:=kr p 4294967296;generalize d/4294967296=lm at*;generalize d %4294967296=zz at*;generalize p/4294967296=asl at*;generalize p %4294967296=pr at*;generalize w'[i]=y at*;have hA:pr=q*v[i]+c-4294967296*asl:=(by omega);generalize v[i]=x at*;have n0:zz=y-pr-b-4294967296*lm:=(by omega);rw[n0,hA];grind
 ·rintro _ ⟨c,b,w',rfl,J,R,ae,aI,aX,bI,eO,s8⟩;simp only[a5 (show¬((v.length:Int)<aW v) by simp only[bQ];omega),cond_false];rw[eC (bS _)] at s8;exact U.au.2 (ar c b w' J R (fun bu bE=>ae _ (bS _) bu bE) aI aX bI eO s8)
theorem agb {A w C v:List Int} (hv:bp v) (hw:bp w) (ag:v.length<w.length) (xi:w.length<=100000000) {b8:(axM×Int×bO×Unit)->Prop} (ar:∀c w',w'.length=w.length->bp w'->(∀(h:v.length<w'.length) (R:v.length<w.length),w'[v.length]=w[v.length])->0<=c->c<=1->ak w'+bm v.length*c=ak w+ak v->b8 ((A.length,A.length+w.length),c,A++(w'++C),())):U (loop (σ:=(axM×Int×Int×bO×Unit)) (ρ:=(axM×Int×bO×Unit)) (fun(lK,y9,sq,we,_)=>
 bif decide (sq<aW v) then
 (bb v sq).bind fun H0=>
 (cV (lK.2-lK.1) sq).bind fun QC=>
 (cy we (lK.1+QC) fun OB=>some OB).bind fun H1=>
 (cV (lK.2-lK.1) sq).bind fun Gw=>
 (cy we (lK.1+Gw) fun _=>some (we.set (lK.1+Gw) (dF (eg IntKind.u64 (bo (bo (bo H1+bo H0)+y9)) 4294967295)))).bind fun Tr=>
 (ec IntKind.u64 (bo (bo (bo H1+bo H0)+y9)) 32).bind fun Tl=>
 some (.inl (lK,Tl,bR sq,Tr,())) else
 some (.inr (lK,y9,we,()))) ((A.length,A.length+w.length),0,0,A++(w++C),())) b8:=by
 refine U.steps v.length (fun i s=>∃c w',s=((A.length,A.length+w.length),c,(i:Int),A++(w'++C),())/\w'.length=w.length/\bp w'/\(∀k,i<=k->(h:k<w'.length)->(R:k<w.length)->w'[k]=w[k])/\0<=c/\c<=1/\ak w'+bm i*c=ak w+ak (v.take i)) ⟨0,w,rfl,rfl,hw,fun _ _ _ _=>rfl,by omega,by omega,by simp[ak]⟩ ?_ ?_
 ·rintro i _ hi ⟨c,w',rfl,J,R,ae,aI,aX,bI⟩;have ab:=hv.get hi;have aB:=R.get (n:=i) (by omega);obtain⟨t,af,t0,t1⟩:∃t,t=w'[i]+v[i]+c/\0<=t/\t<8589934592:=⟨_,rfl,by omega,by omega⟩;simp only[bc (show(i:Int)<aW v by simp only[bQ];omega),cond_true,dO hi,br];have aV:bo (bo (bo w'[i]+bo v[i])+c)=t:=by
   rw[dT (x:=v[i]) (by omega) (by omega),dT (x:=w'[i]) (by omega) (by omega),dT (x:=w'[i]+v[i]) (by omega) (by omega),<-af,dT t0 (by omega)]
  simp only[qY,sO,iR (show i<w.length by omega),br,uA (show i<w'.length by omega),aV,vu t0 (show t<18446744073709551616 by omega),MP (show i<w'.length by omega)];refine U.au.2 ⟨t/4294967296,w'.set i (t %4294967296),by rw[cY (by omega)],by simp[J],R.set (by omega) (by omega),?_,by omega,by omega,?_⟩
  ·intro k bu bE cl;rw[BA (by omega)];exact ae k (by omega) (by omega) cl
  ·rw[sA (by omega),iW,jE hi];have f1:=kr t 4294967296;generalize t/4294967296=lm at*;generalize t %4294967296=zz at*;generalize w'[i]=y at*;generalize v[i]=x at*;have n0:zz=y+x+c-4294967296*lm:=(by omega);rw[n0];grind
 ·rintro _ ⟨c,w',rfl,J,R,ae,aI,aX,bI⟩;simp only[a5 (show¬((v.length:Int)<aW v) by simp only[bQ];omega),cond_false];rw[eC (bS _)] at bI;exact U.au.2 (ar c w' J R (fun bu bE=>ae _ (bS _) bu bE) aI aX bI)
theorem ah3 {T S W c q V li y lm:Int} (bI:T+W*c=S+V) (R:S=li-q*V-W*(4294967296*-1)):T+W*(y+c-4294967296*lm-y)=li-(q-1)*V+W*(4294967296*(1-lm)):=by have aC:W*(y+c-4294967296*lm-y)=W*c-W*(4294967296*lm):=(by grind);have aV:(q-1)*V=q*V-V:=(by grind);have b4:W*(4294967296*(1-lm))=W*4294967296-W*(4294967296*lm):=(by grind);have fo:W*(4294967296*-1)=-(W*4294967296):=(by grind);omega
theorem ah4 {T W c b q V li y lm:Int} (h:T-W*(c+b)=li-q*V):T+W*(y-c-b-4294967296*lm-y)=li-q*V-W*(4294967296*lm):=by have aC:W*(y-c-b-4294967296*lm-y)=-(W*(c+b))-W*(4294967296*lm):=(by grind);omega
theorem U.bs {α aR:Type} {x:Option α} {k:α->Option aR} {Q:aR->Prop} {y:α} (h:x=some y) (R:U (k y) Q):U (x.bind k) Q:=by rw[h];exact R
theorem ah5 {A w C v:List Int} {n:Nat} (h:D1 v w n):U (EP ((A++(w++C),A.length,A.length+w.length),v,())) (fun r=>∃w',r=(A++(w'++C),ak w/ak v,())/\w'.length=w.length/\bp w'/\ak w'=ak w %ak v):=by
 have oc:=h.yr;have CQ:=h.wn;have vb:=h.L6;have rT:=h.ab4;have akB:=e6 h.hw;have Lo:=h.top;have CR:=h.hv.get (n:=n+1) (by omega);have tn:=h.hw.get (n:=n+2) (by omega);have r1:=h.hw.get (n:=n+1) (by omega);have ep:aW v=((n+2:Nat):Int):=(by simp only[bQ];omega);have aC:aY (((n+2:Nat):Int)-1)=((n+1:Nat):Int):=(by rw[cp (by omega) (by omega)];omega);have bT:bb v ((n+1:Nat):Int)=some v[n+1]:=dO (by omega);obtain⟨t1,t2⟩:=S4 (x:=w[n+2]) (y:=w[n+1]) tn r1;obtain⟨t3,t4⟩:=R8 (x:=4294967296*w[n+2]+w[n+1]) (y:=v[n+1]) ⟨by omega,by omega⟩ (by omega);unfold EP;have i2:cV (A.length+w.length-A.length) (aW v)=some (n+2):=(by rw[sO,ep];exact iR (by omega));have i1:cV (A.length+w.length-A.length) (aY (aW v-1))=some (n+1):=(by rw[sO,ep,aC];exact iR (by omega));have i3:bb v (aY (aW v-1))=some v[n+1]:=(by rw[ep,aC];exact bT);refine U.bs i2 (U.bs (uA (by omega) _) (U.bs (by rw[dT tn.1 (by omega)];exact t1) (U.bs i1 (U.bs (uA (by omega) _) (U.bs i3 (U.bs (by rw[t2,dT CR.1 (by omega)];exact t3) (U.bs i3 (U.bs (by rw[t2,dT CR.1 (by omega)];exact t4) ?_))))))));refine U.bP (aiW h rfl rfl) ?_;rintro _ ⟨q,rfl,lG,aK,aL,a8⟩;refine U.bP (P:=fun r=>∃c b w',r=((A.length,A.length+w.length),c,b,A++(w'++C),())/\w'.length=w.length/\bp w'/\0<=c/\c<4294967296/\0<=b/\b<=1/\(∀(h:v.length<w'.length) (R:v.length<w.length),w'[v.length]=w[v.length])/\ak w'-bm v.length*(c+b)=ak w-q*ak v) (aug h.hv h.hw (by omega) (by omega) ⟨lG,aK⟩ fun c b w' bu bE cl gu lD qN CY vo=>⟨c,b,w',rfl,bu,bE,gu,lD,qN,CY,cl,vo⟩) ?_;rintro _ ⟨c,b,w',rfl,bu,bE,gu,lD,qN,CY,cl,vo⟩;have aB:=bE.get (n:=n+2) (by omega);obtain⟨d,aN,cJ,cz⟩:∃d,d=w'[n+2]-c-b/\-4294967296<=d/\d<4294967296:=⟨_,rfl,by omega,by omega⟩;have aV:bo (bo (bo w'[n+2]-c)-b)=d %18446744073709551616:=(by rw[o9,o9,o9,aN];omega);have Bi:d %18446744073709551616/4294967296 %2^1=-(d/4294967296):=(by rw[show(2:Int)^1=2 from rfl];omega);have yy:d %18446744073709551616 %4294967296=d %4294967296:=(by omega);refine U.bs i2 (U.bs (uA (by omega) _) (U.bs i2 (U.bs (y:=A++(w'.set (n+2) (d %4294967296)++C)) ?_ (U.bs (y:=d %18446744073709551616/4294967296) ?_ ?_))))
 ·rw[uA (by omega),aV,vu (by omega) (by omega),MP (by omega),yy]
 ·rw[aV,qY]
 rw[wN 1 (by omega) (by omega) 1 (by decide) (by decide),Bi];have lv:=f3 (n+2);have pL:ak (w'.set (n+2) (d %4294967296))=ak w'+bm (n+2)*(d %4294967296-w'[n+2]):=sA (by omega) _;have u7:bp (w'.set (n+2) (d %4294967296)):=bE.set (by omega) (by omega);rw[oc] at vo;have f1:=kr d 4294967296;have hD:ak (w'.set (n+2) (d %4294967296))=ak w-q*ak v-bm (n+2)*(4294967296*(d/4294967296)):=(by rw[pL];generalize d/4294967296=lm at*;generalize d %4294967296=zz at*;have:zz=w'[n+2]-c-b-4294967296*lm:=(by omega);rw[this];exact ah4 vo);have PR:=hS u7;have awv:=e6 u7;rw[Ea,bu,CQ,show n+3=(n+2)+1 by omega,iW] at PR;have FP:=kr (ak w) (ak v);have jw:=uf (ak w) (show ak v≠0 by omega);have tj:=wy (ak w) rT;rw[e5,cB];refine U.ite (fun g=>?_) fun g=>?_
 ·have PD:d/4294967296=0:=(by omega);rw[PD] at hD;have ai:ak w/ak v=q:=by
   have J:q*ak v<=ak w:=(by omega);have R:q<=ak w/ak v:=(Int.le_ediv_iff_mul_le rT).2 J;omega
  rw[dh (by simp;omega),nK lG aK];refine U.au.2 ⟨_,by rw[ai],by simp[bu],u7,?_⟩;rw[hD];rw[ai] at FP;rw[kK q];omega
 ·have PD:d/4294967296=-1:=(by omega);rw[PD] at hD;have ai:ak w/ak v=q-1:=by
   have J:ak w<q*ak v:=(by omega);have R:ak w/ak v<q:=yE rT J;have ae:(q-1)*ak v<ak w+1:=(by have:(q-1)*ak v=q*ak v-ak v:=(by grind);omega);have aI:q-1<=ak w/ak v:=(Int.le_ediv_iff_mul_le rT).2 (by omega);omega
  have iP:=qc akB (fu rT);have dR:(w'.set (n+2) (d %4294967296)).length=w.length:=(by simp[bu]);rw[<-dR];refine U.bP (P:=fun r=>∃c e7,r=((A.length,A.length+(w'.set (n+2) (d %4294967296)).length),c,A++(e7++C),())/\e7.length=w.length/\bp e7/\0<=c/\c<=1/\ak e7+bm v.length*c=ak (w'.set (n+2) (d %4294967296))+ak v) (agb h.hv u7 (by omega) (by omega) fun c e7 Gn oZ awV Qv X0 Lz=>⟨c,e7,rfl,by rw[Gn,dR],oZ,Qv,X0,Lz⟩) ?_;rintro _ ⟨cd,e7,rfl,Gn,oZ,Qv,X0,Lz⟩;rw[dR];have aZ:=oZ.get (n:=n+2) (by omega);refine U.bs i2 (U.bs (uA (by omega) _) (U.bs i2 (U.bs (y:=A++(e7.set (n+2) ((e7[n+2]+cd) %4294967296)++C)) ?_ ?_)))
  ·rw[uA (by omega),MP (by omega),nK Qv (by omega),wk]
  rw[dh (by simp;omega),dT (by omega) (by omega),nK (by omega) (by omega)];refine U.au.2 ⟨e7.set (n+2) ((e7[n+2]+cd) %4294967296),by rw[ai],by simp[Gn],oZ.set (by omega) (by omega),?_⟩;have amg:ak (e7.set (n+2) ((e7[n+2]+cd) %4294967296))=ak e7+bm (n+2)*((e7[n+2]+cd) %4294967296-e7[n+2]):=sA (by omega) _;have W9:bp (e7.set (n+2) ((e7[n+2]+cd) %4294967296)):=oZ.set (by omega) (by omega);have alF:=hS W9;have aww:=e6 W9;have alz:(e7.set (n+2) ((e7[n+2]+cd) %4294967296)).length=(n+2)+1:=(by rw[Ea];omega);rw[alz,iW] at alF;have cC:=kr (e7[n+2]+cd) 4294967296;rw[oc] at Lz;have Ll:ak (e7.set (n+2) ((e7[n+2]+cd) %4294967296))=ak w-(q-1)*ak v+bm (n+2)*(4294967296*(1-(e7[n+2]+cd)/4294967296)):=(by rw[amg];generalize(e7[n+2]+cd)/4294967296=lm at*;generalize(e7[n+2]+cd) %4294967296=zz at*;have:zz=e7[n+2]+cd-4294967296*lm:=(by omega);rw[this];exact ah3 Lz hD);rw[ai] at FP;have pD:ak w-(q-1)*ak v=ak w %ak v:=(by rw[kK (q-1)];omega);rw[pD] at Ll;have amx:=hS h.hv;rw[oc] at amx;have alU:(e7[n+2]+cd)/4294967296=1:=by
   rcases kJ 0 ((e7[n+2]+cd)/4294967296) with cZ|cZ
   ·omega
   ·exfalso;have:(e7[n+2]+cd)/4294967296=0:=(by omega);rw[this] at Ll;omega
  rw[alU] at Ll;rw[Ll];simp
theorem Fr {x:Int} (h:0<=x):ak (dd x.toNat)=x:=by rw[mK];omega
theorem apr {b:List Int} {n:Nat} (aa:bp b) (tb:en b) (ag:b.length=n+2):∃s:Nat,s<=31/\JC (b[n+1],())=some ((s:Int),())/\ak b*2^s<bm (n+2)/\2147483648*bm (n+1)<=ak b*2^s:=by
 have ab:=aa.get (n:=n+1) (by omega);have aU:b[n+1]≠0:=tb _ (by rw[List.getLast?_eq_getElem?,ct (by omega)];congr 2;omega);have ae:ak b=ak (b.take (n+1))+bm (n+1)*b[n+1]:=(by rw[<-jE (by omega),eC (by omega)]);have aI:=e6 (aa.take (n+1));have aX:=hS (aa.take (n+1));rw[fl,iY (by omega)] at aX;generalize b[n+1]=t at*;obtain⟨k,rfl⟩:=gn ab.1;have ac:0<k:=(by omega);have awm:a7 k<=32:=eo.2 (by omega);have FJ:=uD ac;obtain⟨c4,cd⟩:=Er ac;obtain⟨j,al⟩:∃j,a7 k=j+1:=⟨a7 k-1,by omega⟩;refine⟨32-a7 k,by omega,?_,?_,?_⟩
 ·unfold JC;refine aP (Ys (n:=k) (by omega)) ?_;show some (aY (32-(a7 k:Int)),())=_;rw[cp (by omega) (by omega)];congr 2;omega
 ·have aC:ak b<bm (n+1)*2^a7 k:=by
   have:bm (n+1)*((k:Int)+1)<=bm (n+1)*2^a7 k:=nf (by rw[<-oo];omega) (fu (f3 _));have aV:bm (n+1)*((k:Int)+1)=bm (n+1)*(k:Int)+bm (n+1):=(by rw[Int.mul_add,Int.mul_one]);show ak b<_;rw[ae];show ak (b.take (n+1))+bm (n+1)*(k:Int)<_;omega
  have b4:ak b*2^(32-a7 k)<bm (n+1)*2^a7 k*2^(32-a7 k):=D4 aC (mi _);rw[ug,<-qf,show a7 k+(32-a7 k)=32 by omega] at b4;rw[iW,kK];rw[kK];have:bm (n+1)*2^32=4294967296*bm (n+1):=(by rw[kK];rfl);omega
 ·have aC:bm (n+1)*2^j<=ak b:=by
   have:bm (n+1)*2^j<=bm (n+1)*(k:Int):=nf (by rw[<-oo];rw[al] at c4;simp only[Ee] at c4;omega) (fu (f3 _));rw[ae];show _<=ak (b.take (n+1))+bm (n+1)*(k:Int);omega
  have b4:bm (n+1)*2^j*2^(32-a7 k)<=ak b*2^(32-a7 k):=oF aC (fu (mi _));rw[ug,<-qf,show j+(32-a7 k)=31 by omega] at b4;have:bm (n+1)*2^31=2147483648*bm (n+1):=(by rw[kK];rfl);omega
theorem ah7 {v:List Int} {V:Int} {n:Nat} (c6:ak v=V) (hv:bp v) (S3:en v) (J:V<bm (n+2)) (R:2147483648*bm (n+1)<=V):∃h:v.length=n+2,2147483648<=v[n+1]:=by
 have ay:=f3 (n+1);have dR:v.length=n+2:=by
  have cq:=hS hv;have dv:v≠[]:=fun e=>(by rw[e] at c6;simp only[ak] at c6;omega);have a3:=en.low hv S3 dv;rcases rl v.length (n+2) with h|h|h
  ·have:=sl (m:=v.length) (n:=n+1) (by omega);omega
  ·exact h
  ·have:=sl (m:=n+2) (n:=v.length-1) (by omega);omega
 refine⟨dR,?_⟩;have ae:ak v=ak (v.take (n+1))+bm (n+1)*v[n+1]:=(by rw[<-jE (by omega),eC (by omega)]);have aX:=hS (hv.take (n+1));rw[fl,iY (by omega)] at aX;rcases kJ v[n+1] 2147483648 with g|g
 ·exfalso;have:bm (n+1)*(v[n+1]+1)<=bm (n+1)*2147483648:=nf (by omega) (by omega);rw[Int.mul_add,Int.mul_one] at this;omega
 ·exact g
theorem ah8 {li Q V w q P A x C:Int} (h:(A+P*(w+C))+V*Q=li) (hw:w=V*q+x):(A+P*(x+C))+V*(Q+P*(q-0))=li:=by subst hw;have aC:P*(V*q+x+C)=P*(x+C)+P*(V*q):=(by grind);have aV:V*(Q+P*(q-0))=V*Q+P*(V*q):=(by grind);omega
theorem ah6 {v hq:List Int} {V li:Int} {n m N:Nat} (hv:bp v) (c6:ak v=V) (awj:V<bm (n+2)) (oc:v.length=n+2) (Ga:2147483648<=v[n+1]) (L6:n<=10000000) (aQ:bp hq) (zV:ak hq=li) (xi:hq.length=N) (ao:N=m+(n+2)) (awg:N<=10000000) (cg:ak (hq.drop m)<V) {b8:oM->Prop} (ar:∀q u,q.length=m->bp q->u.length=N->bp u->ak u+V*ak q=li->ak u<V->b8 (q,u,())):U (loop (σ:=(Int×bO×bO×Unit)) (ρ:=oM) (fun(r9,Hm,wg,_)=>
 bif decide (r9>=0) then
 (
  (hp r9).bind fun GH=>(hp (bR (aY (r9+aW v)))).bind fun GI=>(ia GH GI wg.length).bind fun _=>(Mo wg.length).map fun _=>(GH,GI)).bind fun vS=>
  bif Nat.blt vS.1 vS.2 then
 (EP ((wg,vS.1,vS.2),v,())).bind fun(Q0,Si,_)=>
 wr Hm r9 Si fun Tt=>
 some (.inl (aY (r9-1),Tt,Q0,())) else none else
 some (.inr (Hm,wg,()))) (aY (aW (List.replicate m (0:Int))-1),List.replicate m (0:Int),hq,())) b8:=by
 have rT:0<V:=(by have J:=Tc oc;have R:=e6 (hv.take n);have ae:=hv.get (n:=n) (by omega);have aX:0<(v[n+1]*4294967296+v[n])*bm n:=wA (by omega) (f3 n);omega);refine U.steps m (fun i s=>∃q u,s=(((m:Nat):Int)-1-i,q,u,())/\q.length=m/\bp q/\(∀k,k<m-i->(ac:k<q.length)->q[k]=0)/\u.length=N/\bp u/\ak u+V*ak q=li/\ak (u.drop (m-i))<V) ⟨List.replicate m 0,hq,?_,by simp,bp.rb _,by simp,xi,aQ,by rw[yq,zV];omega,cg⟩ ?_ ?_
 ·rw[show aY (aW (List.replicate m (0:Int))-1)=(m:Int)-1-((0:Nat):Int) from ?_];simp only[bQ,uu];rw[cp (by omega) (by omega)];omega
 ·rintro i _ hi ⟨q,u,rfl,aK,aL,a8,p3,gg,J,R⟩;obtain⟨k,ac⟩:∃k,m=k+1+i:=⟨m-1-i,by omega⟩;have aC:((m:Nat):Int)-1-(i:Int)=(k:Int):=(by omega);rw[show m-i=k+1 by omega] at R;have aV:bR (aY ((k:Int)+aW v))=((k+(n+3):Nat):Int):=by
   simp only[bQ];rw[cp (by omega) (by omega),show(k:Int)+(v.length:Int)=((k+(n+2):Nat):Int) by omega,cY (by omega)];rfl
  simp only[aC,bc (show(k:Int)>=0 by omega),cond_true,aV,G5,br,LP (show k<=k+(n+3)/\k+(n+3)<=u.length by omega),asd (show 0<u.length by omega),g6,show Nat.blt k (k+(n+3))=true from by simp];obtain⟨A,eS⟩:∃A,A=u.take k:=⟨_,rfl⟩;obtain⟨w,hw⟩:∃w,w=(u.drop k).take (n+3):=⟨_,rfl⟩;obtain⟨C,FF⟩:∃C,C=u.drop (k+(n+3)):=⟨_,rfl⟩;have zT:A.length=k:=(by rw[eS,fl];omega);have r4:w.length=n+3:=(by rw[hw,fl,pe];omega);have r2:u=A++(w++C):=(by rw[eS,hw,FF,<-uj,pf,pf]);have awe:C.length=N-(k+(n+3)):=(by rw[FF,pe,p3]);have anr:bp A:=(by rw[eS];exact gg.take k);have QY:bp w:=(by rw[hw];exact(gg.drop k).take _);have Yl:bp C:=(by rw[FF];exact gg.drop _);have aws:ak (u.drop k)=ak w+bm (n+3)*ak C:=(by rw[r2,yJ (by omega),yK (by omega),hj,sz,r4]);have awt:ak (u.drop k)=u[k]+4294967296*ak (u.drop (k+1)):=nI (by omega);have ab:=gg.get (n:=k) (by omega);have akl:=e6 Yl;have awf:0<=bm (n+3)*ak C:=qd (fu (f3 _)) akl;have PR:ak (u.drop k)<4294967296*V:=(by omega);have akm:ak C=0:=by
   rcases kJ 0 (ak C) with g|g
   ·exfalso;have:=nf (show 1<=ak C by omega) (fu (f3 (n+3)));have e:bm (n+3)=4294967296*bm (n+2):=iW (n+2);have:=e6 QY;omega
   ·omega
  have D:D1 v w n:=⟨hv,QY,oc,r4,L6,Ga,by rw[c6];omega⟩;have iP:0<=ak w/V:=Int.ediv_nonneg (e6 QY) (by omega);have pK:ak w/V<4294967296:=Int.ediv_lt_of_lt_mul rT (by omega);have FP:=Int.emod_add_mul_ediv (ak w) V;have tj:=Int.emod_lt_of_pos (ak w) rT;have Vl:=ah5 (A:=A) (C:=C) D;rw[<-r2,zT,r4,c6] at Vl;refine U.bP Vl ?_;rintro _ ⟨w',rfl,ys,e7,dF⟩;dsimp only;rw[sC (by omega)];refine U.au.2 ⟨q.set k (ak w/V),A++(w'++C),?_,by simp[aK],aL.set iP pK,?_,by simp;omega,bp.append.2 ⟨anr,bp.append.2 ⟨e7,Yl⟩⟩,?_,?_⟩
  ·rw[cp (by omega) (by omega)];congr 1;omega
  ·intro bE cl gu;rw[BA (by omega)];exact a8 bE (by omega) (by simpa using gu)
  ·rw[sA (by omega),a8 k (by omega) (by omega),sz,sz,zT,dF];rw[r2,sz,sz,zT] at J;rw[ys];rw[r4] at J;have XD:ak w=V*(ak w/V)+ak w %V:=(by omega);exact ah8 J XD
  ·rw[show m-(i+1)=k by omega,yJ (by omega),yK (by omega),hj,sz,akm,dF];omega
 ·rintro _ ⟨q,u,rfl,aK,aL,a8,p3,gg,J,R⟩;have aC:¬(((m:Nat):Int)-1-(m:Int)>=0):=(by omega);simp only[a5 aC,cond_false];rw[Nat.sub_self,rf] at R;exact U.au.2 (ar q u aK aL p3 gg J R)
theorem R9 {A B q r:Int} (eP:0<B) (h:A=B*q+r) (aU:0<=r) (J:r<B):A/B=q/\A %B=r:=by have R:=kr A B;have ae:A/B=q:=(by rw[h,Int.mul_add_ediv_left _ _ (by omega),ue aU J];omega);refine⟨ae,?_⟩;rw[ae] at R;omega
theorem Vn {a b:List Int} (aG:bp a) (aa:bp b) (ta:en a) (tb:en b) (k3:a.length<=1000000) (gd:b.length<=1000000) (nw:b≠[]):EQ (a,b,())=some (dd (ak a/ak b).toNat,dd (ak a %ak b).toNat,()):=by
 unfold EQ;refine U.eq_iff.1 ?_;have Pb:=e6 aG;have ns:0<ak b:=(by have:=e6 aa;have:ak b≠0:=fun e=>nw (en.zero aa tb e);omega);refine U.bs (IZ aG aa ta tb (by omega) (by omega)) ?_;dsimp only;rw[cB];refine U.ite (fun h=>?_) fun h=>?_
 ·have cg:ak a<ak b:=by
   unfold fm at h;split at h
   ·assumption
   ·split at h<;>omega
  refine U.bs (Ex (by omega)) (U.au.2 ?_);rw[ue Pb cg,yF Pb cg];show(([]:List Int),a,())=(dd 0,dd (ak a).toNat,());rw[VI,<-en.eq aG ta]
 have kW:ak b<=ak a:=by
  unfold fm at h;split at h
  ·omega
  ·omega
 rw[e5,cB];refine U.ite (fun J=>?_) fun J=>?_
 ·have J:b.length=1:=(by simp only[bQ] at J;omega);obtain⟨d,rfl⟩:=List.length_eq_one_iff.1 J;have aN:=(bp.cons.1 aa).1;have hv:ak [d]=d:=(by simp[ak]);rw[hv] at ns|-;have vv:0<=ak a %d:=Int.emod_nonneg _ (by omega);have ie:ak a %d<d:=Int.emod_lt_of_pos _ ns;refine U.bs (y:=d) rfl (U.bs (atP aG (by omega) (by omega) aN.2) ?_);dsimp only;refine U.bs (q4 (bp.cons.2 ⟨⟨vv,by omega⟩,bp.nil⟩) (by simp)) (U.au.2 ?_);show(_,iF [ak a %d],())=_;rw[iF];simp[ak]
 obtain⟨n,ag⟩:∃n,b.length=n+2:=(by have:=List.length_pos_iff.2 nw;simp only[bQ] at J;exact⟨b.length-2,by omega⟩);have aC:aY (aW b-1)=((n+1:Nat):Int):=(by simp only[bQ];rw[cp (by omega) (by omega)];omega);obtain⟨s,gP,iC,mm,sp⟩:=apr aa tb ag;have awE:n+2<=a.length:=by
  rcases ch a.length (n+2) with g|g
  ·have:=wh aG aa tb (by omega);omega
  ·exact g
 have ay:=mi s;refine U.bs (y:=b[n+1]) (by rw[aC];exact dO (by omega)) (U.bs iC ?_);refine U.bs (M4 aa (by omega) (by omega)) ?_;obtain⟨v,hv⟩:∃v,v=dd (ak b*2^s).toNat:=⟨_,rfl⟩;have rR:0<=ak b*2^s:=Int.mul_nonneg (by omega) (by omega);have c6:ak v=ak b*2^s:=(by rw[hv,Fr rR]);have de:bp v:=(by rw[hv];exact lZ _);have S3:en v:=(by rw[hv];exact qv _);obtain⟨oc,Ga⟩:=ah7 c6 de S3 mm sp;rw[<-hv];have aV:bR (aW a)=((a.length+1:Nat):Int):=cY (by omega);refine U.bs (y:=a.length+1) (by rw[aV];exact lE (by omega)) ?_;refine U.bs (M4 aG (by omega) (by omega)) ?_;have akj:0<=ak a*2^s:=Int.mul_nonneg (by omega) (by omega);have awd:ak a*2^s<bm (a.length+1):=(by have R:ak a*2^s<bm a.length*2^s:=Int.mul_lt_mul_of_pos_right (hS aG) ay;have ae:bm a.length*2^s<=bm a.length*4294967296:=Int.mul_le_mul_of_nonneg_left (by have:=Dq gP;omega) (Int.le_of_lt (f3 _));rw[iW,Int.mul_comm 4294967296];omega);obtain⟨x,ab⟩:∃x,x=dd (ak a*2^s).toNat:=⟨_,rfl⟩;have Ai:x.length<=a.length+1:=(by rw[ab];exact w8 (by omega));have an0:bp x:=(by rw[ab];exact lZ _);have ix:ak x=ak a*2^s:=(by rw[ab,Fr akj]);rw[<-ab];obtain⟨hq,tn⟩:∃hq,hq=mI (List.replicate (a.length+1) (0:Int)) x 0 (List.replicate (a.length+1) (0:Int)).length:=⟨_,rfl⟩;have r1:hq=x++List.replicate (a.length+1-x.length) 0:=(by rw[tn];unfold mI;rw[List.take_zero,List.nil_append,List.length_replicate,Nat.sub_zero,List.take_of_length_le Ai,Nat.zero_add,Nat.min_eq_left Ai,List.drop_replicate]);have tp:hq.length=a.length+1:=(by rw[r1];simp;omega);have YC:bp hq:=(by rw[r1];exact bp.append.2 ⟨an0,bp.rb _⟩);have r2:ak hq=ak a*2^s:=(by rw[r1,sz,yq,ix];omega);dsimp only;rw[<-tn];obtain⟨m,ao⟩:∃m,a.length+1=m+(n+2):=⟨a.length+1-(n+2),by omega⟩;have b4:aY (aW hq-aW v)=((m:Nat):Int):=(by simp only[bQ];rw[cp (by omega) (by omega)];omega);refine U.bs (y:=m) (by rw[b4];exact lE (by omega)) ?_;have cg:ak (hq.drop m)<ak b*2^s:=(by have J:=t8 hq m (by omega);have R:=e6 (YC.take m);rw[r2] at J;have ae:ak a*2^s<bm a.length*2^s:=Int.mul_lt_mul_of_pos_right (hS aG) ay;have aI:bm a.length=bm m*bm (n+1):=(by rw[<-DY];congr 1;omega);have aX:bm m*ak (hq.drop m)<bm m*(bm (n+1)*2^s):=(by rw[<-Int.mul_assoc,<-aI];omega);have bI:=Int.lt_of_mul_lt_mul_left aX (Int.le_of_lt (f3 m));have eO:bm (n+1)*2^s<=bm (n+1)*2147483648:=Int.mul_le_mul_of_nonneg_left (Dq gP) (Int.le_of_lt (f3 _));omega);refine U.bP (P:=fun r=>∃q u,r=(q,u,())/\q.length=m/\bp q/\u.length=a.length+1/\bp u/\ak u+ak b*2^s*ak q=ak a*2^s/\ak u<ak b*2^s) (ah6 de c6 mm oc Ga (by omega) YC r2 tp ao (by omega) cg fun q u J R ae aI aX bI=>⟨q,u,rfl,J,R,ae,aI,aX,bI⟩) ?_;rintro _ ⟨q,u,rfl,aK,aL,p3,gg,aX,bI⟩;have fo:aW v=((n+2:Nat):Int):=(by simp only[bQ];omega);dsimp only;rw[fo];refine U.bs (MR (by omega)) ?_;have ams:=e6 gg;have amv:ak (u.take (n+2))=ak u:=by
  have J:=t8 u (n+2) (by omega);have R:=e6 (gg.drop (n+2));have ae:=e6 (gg.take (n+2));rcases kJ 0 (ak (u.drop (n+2))) with g|g
  ·exfalso;have:=nf (show 1<=ak (u.drop (n+2)) by omega) (fu (f3 (n+2)));omega
  ·rw[show ak (u.drop (n+2))=0 by omega] at J;omega
 have ar:ak u=2^s*(ak a-ak b*ak q):=(by have pw:ak b*2^s*ak q=2^s*(ak b*ak q):=(by grind);have uR:2^s*(ak a-ak b*ak q)=2^s*ak a-2^s*(ak b*ak q):=Int.mul_sub ..;rw[kK (ak a)] at aX;omega);have aky:0<=ak a-ak b*ak q:=by
  rcases kJ (ak a-ak b*ak q) 0 with g|g
  ·have:=Int.mul_neg_of_pos_of_neg ay g;omega
  ·exact g
 have KX:ak a-ak b*ak q<ak b:=(by have:2^s*(ak a-ak b*ak q)<2^s*ak b:=(by rw[<-ar,Int.mul_comm (2^s)];exact bI);exact Int.lt_of_mul_lt_mul_left this (Int.le_of_lt ay));have akz:ak u/2^s=ak a-ak b*ak q:=(by rw[ar];exact Int.mul_ediv_cancel_left _ (by omega));obtain⟨f1,cC⟩:=R9 (A:=ak a) (B:=ak b) (q:=ak q) (r:=ak a-ak b*ak q) ns (by omega) aky KX;refine U.bs (q4 ((gg.take _).drop _) (by simp;omega)) ?_;have Kr:iF (List.drop 0 (u.take (n+2)))=dd (ak u).toNat:=(by rw[List.drop_zero,iF,amv]);dsimp only;rw[Kr];refine U.bs (Ox (lZ _) (qv _) ?_ (by omega)) ?_
 ·have:=w8 (n:=(ak u).toNat) (k:=n+2) (by omega);omega
 dsimp only;refine U.bs (q4 aL (by omega)) (U.au.2 ?_);show(iF q,_,())=_;rw[Fr ams,akz,f1,cC,iF]
theorem w9 (n:Nat):dd (n:Int).toNat=dd n:=by rw[d4]
theorem aiJ {n:Nat} (h:0<n):dd n≠[]:=fun e=>by have:=OG.1 e;omega
theorem rJ {n k:Nat} (h:a7 n<=32*k):(dd n).length<=k:=by refine w8 ?_;have:=eo.1 h;rw[ud,<-oo];omega
theorem apf {A s x:Nat} (ab:0<x) (J:s*s<=A):s<=(x+A/x)/2:=by
 rw[In (by decide)];rcases ch (s*2) x with h|h
 ·exact eu (Nat.le_of_lt h) (Nat.le_add_right _ _)
 ·have R:s*2-x<=A/x:=by
   rw[In ab];obtain⟨d,aN⟩:∃d,s*2=x+d:=⟨s*2-x,by omega⟩;rw[aN,sO];have ae:4*(s*s)=(x+d)*(x+d):=(by rw[<-aN];grind);have aI:(x+d)*(x+d)=x*x+2*(d*x)+d*d:=(by grind);rcases Nat.le_total x d with g|g
   ·obtain⟨e,rfl⟩:∃e,d=x+e:=⟨d-x,by omega⟩;have:(x+e)*(x+e)=x*x+2*(x*e)+e*e:=(by grind);have:(x+e)*x=x*x+x*e:=(by grind);omega
   ·obtain⟨e,rfl⟩:∃e,x=d+e:=⟨x-d,by omega⟩;have:(d+e)*(d+e)=d*d+2*(d*e)+e*e:=(by grind);have:d*(d+e)=d*d+d*e:=(by grind);omega
  omega
theorem apg {A x:Nat} (ab:0<x) (h:x<=(x+A/x)/2):x*x<=A:=by have J:x<=A/x:=(by omega);rwa[In ab] at J
theorem BV {x y:Int}:fm x y>=0↔y<=x:=by
 unfold fm;split
 ·omega
 ·split<;>omega
theorem atb {A:Nat} (eS:a7 A<=2000000):Jz (dd A,())=some (dd (eW A),()):=by
 unfold Jz;refine U.eq_iff.1 ?_;dsimp only;rw[vt,cB];refine U.ite (fun h=>?_) fun h=>?_
 ·have:=OG.1 h;subst this;exact U.au.2 rfl
 have Pb:0<A:=by
  rcases rk A with g|g
  ·subst g;exact absurd rfl h
  ·exact g
 have dR:(dd A).length<=62500:=rJ (by omega);obtain⟨gP,iC⟩:=Gk A;have awK:0<eW A:=by
  rcases rk (eW A) with g|g
  ·rw[g] at iC;omega
  ·exact g
 refine U.bs (QO (lZ A) (qv A) (by omega)) ?_;rw[mK,d4];have aC:j8 IntKind.i64 (bR (a7 A:Int)) 2=some (((a7 A+1)/2:Nat):Int):=(by unfold j8;rw[cY (by omega),if_pos (by decide),Ih (by omega),wrap64 (by omega) (by omega)];simp);refine U.bs aC ?_;refine U.bs (M4 (a:=[1]) (bp.cons.2 ⟨by decide,bp.nil⟩) (by simp) (by omega)) ?_;have aV:(ak [1]*2^((a7 A+1)/2)).toNat=2^((a7 A+1)/2):=(by rw[show ak [1]=1 from by simp[ak],Int.one_mul,<-oo,d4]);rw[aV];refine U.bP (P:=fun r=>r=(dd (eW A),())) ?_ (by rintro _ rfl;exact U.au.2 rfl);refine U.loop (fun s=>∃x,s=(dd x,())/\eW A<=x/\a7 x<=3000000) (fun s=>(ak s.1).toNat) ⟨_,rfl,?_,?_⟩ ?_
 ·refine SP gP ?_;have J:=eo.1 (bS (a7 A));have R:2^a7 A<=2^((a7 A+1)/2)*2^((a7 A+1)/2):=by
   rw[<-lR];exact uw (by decide) (by omega)
  have ae:=oJ (Nat.le_add_right (2^((a7 A+1)/2)) 1) (Nat.le_add_right (2^((a7 A+1)/2)) 1);omega
 ·rw[eo];exact RX _ 3000000 (by omega)
 ·rintro _ ⟨x,rfl,DN,kq⟩;have ab:0<x:=(by omega);have Ai:(dd x).length<=93750:=rJ (by omega);dsimp only;refine U.bs (Vn (lZ A) (lZ x) (qv A) (qv x) (by omega) (by omega) (aiJ ab)) ?_;rw[mK,mK,<-Int.natCast_ediv,w9];dsimp only;have ai:(dd (A/x)).length<=62500:=by
   refine rJ ?_;have:A/x<=A:=Ef _ _;have J:=eo.1 eS;have:a7 (A/x)<=2000000:=eo.2 (by omega);omega
  refine U.bs (R2 (lZ x) (lZ (A/x)) (by omega) (by omega)) ?_;rw[mK,mK,<-Int.natCast_add,w9];dsimp only;have aa:a7 (x+A/x)<=3000001:=(by refine agK 3000000 kq ?_;have R:=pq (Nat.div_le_self A x);omega);have Ag:(dd (x+A/x)).length<=93751:=rJ (by omega);refine U.bs (Ox (n:=1) (lZ _) (qv _) (by omega) (by omega)) ?_;have b4:(ak (dd (x+A/x))/2^1).toNat=(x+A/x)/2:=(by rw[mK,show(2:Int)^1=((2:Nat):Int) from rfl,<-Int.natCast_ediv];rfl);rw[b4];dsimp only;have amG:a7 ((x+A/x)/2)<=3000000:=(by have:=Et (x+A/x) 1;rw[Nat.pow_one] at this;omega);have awU:(dd ((x+A/x)/2)).length<=93750:=rJ (by omega);refine U.bs (IZ (lZ _) (lZ x) (qv _) (qv x) (by omega) (by omega)) ?_;rw[mK,mK];dsimp only;rw[cB];refine U.ite (fun g=>?_) fun g=>?_
  ·refine U.au.2 ?_;have fb:x<=(x+A/x)/2:=(by have:=BV.1 g;omega);have:=apg ab fb;rw[amZ this (by
    have aX:=oJ (show eW A+1<=x+1 by omega) (show eW A+1<=x+1 by omega);omega)]
  ·refine U.au.2 ⟨⟨(x+A/x)/2,rfl,apf ab gP,amG⟩,?_⟩;show(ak (dd ((x+A/x)/2))).toNat<(x:Int).toNat;rw[mK,d4,d4];have:=mt BV.2 g;omega
def Ic (b:sG):Prop:=bp b.2.1/\en b.2.1/\b.2.1.length<=100000
theorem ip {z:Int} (h:a7 z.natAbs<=3000000):Ic (bf z):=⟨nZ z,Kw z,rJ (by omega)⟩
theorem q3 {l:List Int} (h:bp l) (af:en l) (ag:l.length<=1000000):it (l,())=some (l,()):=by have J:=en.eq h af;rw[q4 h (by omega)];show some (dd (ak l).toNat,())=_;rw[<-J]
theorem uC {neg:Bool} {x:Int} (aU:0<=x) (ag:(dd x.toNat).length<=100000000):mJ (neg,dd x.toNat,())=some (bf (if neg then-x else x),()):=by rw[BP (lZ _) ag];unfold gj;simp only[Fr aU]
theorem aiI {x y:Nat} {k:Nat} (ab:(dd x).length<=k) (aB:(dd y).length<=k):(dd (x+y)).length<=k+1:=by refine w8 ?_;have J:=VH x;have R:=VH y;have ae:=sl ab;have aI:=sl aB;have aX:=f3 k;rw[iW];omega
theorem Tb {x:Int} {l:List Int} {k:Nat} (ah:bp l) (h:l.length<=k) (ab:x<=ak l):(dd x.toNat).length<=k:=by refine w8 ?_;have J:=hS ah;have R:=sl h;have:=f3 k;omega
theorem T3 {a b:sG} (aG:Ic a) (aa:Ic b):zj (a,b,())=some (bf (gj a+gj b),()):=by
 obtain⟨k3,a,_⟩:=a;obtain⟨gd,b,_⟩:=b;obtain⟨cq,dv,a3⟩:=aG;obtain⟨dn,dM,hL⟩:=aa;dsimp only at cq dv a3 dn dM hL;have g2:=e6 cq;have eF:=e6 dn;have aK:=hS cq;have aL:=hS dn;have a8:=sl (m:=a.length) (n:=100000) a3;have bH:=sl (m:=b.length) (n:=100000) hL;have dp:=f3 100000;have awO:∀x:Int,x<=ak a+ak b->(dd x.toNat).length<=100000001:=fun x ab=>(by have:(dd x.toNat).length<=100001:=(by refine w8 ?_;rw[show(100001:Nat)=100000+1 from rfl,iW];generalize bm 100000=p at*;omega);omega);have Qa:∀x:Int,x<=ak a+ak b->(dd x.toNat).length<=100000000:=fun x ab=>(by have:(dd x.toNat).length<=100001:=(by refine w8 ?_;rw[show(100001:Nat)=100000+1 from rfl,iW];generalize bm 100000=p at*;omega);omega);unfold zj;dsimp only;refine aP (q3 cq dv (by omega)) (aP (q3 dn dM (by omega)) ?_);dsimp only;cases hs:(k3==gd) with
 |true=>
  have hs:k3=gd:=(by simpa using hs);subst hs;refine aP (R2 cq dn (by omega) (by omega)) (aP (uC (by omega) (Qa _ (by omega))) ?_);dsimp only;congr 3;unfold gj;cases k3<;>simp<;>omega
 |false=>
  have hs:k3=!gd:=(by cases k3<;>cases gd<;>simp at hs|-);refine aP (IZ cq dn dv dM (by omega) (by omega)) ?_;dsimp only;rw[cB];split
  ·rename_i g;have fb:ak b<=ak a:=BV.1 g;have ah:b.length<=a.length:=by
    rcases ch a.length b.length with k|k
    ·have:=wh cq dn dM k;omega
    ·exact k
   refine aP (YP cq dn (by omega) ah fb) (aP (uC (by omega) (Qa _ (by omega))) ?_);dsimp only;congr 3;unfold gj;subst hs;cases gd<;>simp<;>omega
  ·rename_i g;have fb:ak a<ak b:=Int.not_le.1 (mt BV.2 g);have ah:a.length<=b.length:=by
    rcases ch b.length a.length with k|k
    ·have:=wh dn cq dv k;omega
    ·exact k
   refine aP (YP dn cq (by omega) ah (Int.le_of_lt fb)) (aP (uC (by omega) (Qa _ (by omega))) ?_);dsimp only;congr 3;unfold gj;subst hs;cases gd<;>simp<;>omega
theorem T2 {x y:Int} (ab:a7 x.natAbs<=3000000) (aB:a7 y.natAbs<=3000000):zj (bf x,bf y,())=some (bf (x+y),()):=by rw[T3 (ip ab) (ip aB),q6,q6]
theorem auf {x y:Int} (ab:a7 x.natAbs<=3000000) (aB:a7 y.natAbs<=3000000):Jy (bf x,bf y,())=some (bf (x-y),()):=by unfold Jy;have h:Ic ((!(bf y).1,(bf y).2):sG):=⟨nZ y,Kw y,(ip aB).2.2⟩;refine aP (T3 (ip ab) h) ?_;rw[q6];have R:gj ((!(bf y).1,(bf y).2):sG)=-y:=(by have:=M8 (bf y).1 (bf y).2.1;have ae:=q6 y;exact this.trans (congrArg _ ae));rw[R];rfl
theorem Y2 {x y:Int} (ab:a7 x.natAbs<=3000000) (aB:a7 y.natAbs<=3000000):EN (bf x,bf y,())=some (bf (x*y),()):=by
 unfold EN;dsimp only;obtain⟨cq,dv,a3⟩:=ip ab;obtain⟨dn,dM,hL⟩:=ip aB;refine aP (q3 cq dv (by omega)) (aP (q3 dn dM (by omega)) ?_);dsimp only;refine aP (auv cq dn (by omega) (by omega)) ?_;rw[kk,kk,<-Int.natCast_mul,w9];dsimp only;have ah:(dd (x.natAbs*y.natAbs)).length<=100000000:=(by have:(dd (x.natAbs*y.natAbs)).length<=200000:=(by refine rJ ?_;have:=Es ab aB;omega);omega);have aa:=uC (neg:=!((bf x).1==(bf y).1)) (x:=((x.natAbs*y.natAbs:Nat):Int)) (by omega) (by rw[w9];exact ah);rw[w9] at aa;refine aP aa ?_;dsimp only;congr 3;show(if(!(decide (x<0)==decide (y<0)))=true then _ else _)=_;rw[Int.natCast_mul];rcases Int.lt_or_le x 0 with bT|bT<;>rcases Int.lt_or_le y 0 with bz|bz
 ·rw[bc bT,bc bz];have aC:(x.natAbs:Int)=-x:=(by omega);have aV:(y.natAbs:Int)=-y:=(by omega);rw[aC,aV];simp<;>grind
 ·rw[bc bT,a5 (show¬y<0 by omega)];have aC:(x.natAbs:Int)=-x:=(by omega);have aV:(y.natAbs:Int)=y:=(by omega);rw[aC,aV];simp<;>grind
 ·rw[bc bz,a5 (show¬x<0 by omega)];have aC:(x.natAbs:Int)=x:=(by omega);have aV:(y.natAbs:Int)=-y:=(by omega);rw[aC,aV];simp<;>grind
 ·rw[a5 (show¬y<0 by omega),a5 (show¬x<0 by omega)];have aC:(x.natAbs:Int)=x:=(by omega);have aV:(y.natAbs:Int)=y:=(by omega);rw[aC,aV];simp
theorem U4 {x y:Int} (ab:a7 x.natAbs<=900000) (aB:a7 y.natAbs<=900000):EM (bf x,bf y,())=some (fm x y,()):=by
 obtain⟨cq,dv,a3⟩:=ip (z:=x) (by omega);obtain⟨dn,dM,hL⟩:=ip (z:=y) (by omega);unfold EM;refine aP (v9 (jY (by omega))) (aP (v9 (jY (by omega))) ?_);dsimp only;rw[cB,cB];have hs:∀z:Int,z<0/\fY z=-1\/z=0/\fY z=0\/0<z/\fY z=1:=fun z=>by
  unfold fY;split
  ·omega
  ·split<;>omega
 split
 ·rename_i h;unfold fm;rw[if_pos (by have:=hs x;have:=hs y;omega)]
 split
 ·rename_i J R;unfold fm;rw[if_neg (by have:=hs x;have:=hs y;omega),if_pos (by have:=hs x;have:=hs y;omega)]
 ·rename_i J R;have aE:fY x=fY y:=(by omega);refine aP (q3 cq dv (by omega)) (aP (q3 dn dM (by omega)) ?_);dsimp only;refine aP (IZ cq dn dv dM (by omega) (by omega)) ?_;rw[kk,kk];dsimp only;have ab:=hs x;have aB:=hs y;have:fY x*fm (x.natAbs:Int) (y.natAbs:Int)=fm x y:=by
   rcases ab with⟨g,e⟩|⟨g,e⟩|⟨g,e⟩<;>rw[e]
   ·unfold fm;split
    ·rw[if_neg (by omega),if_pos (by omega)];rfl
    ·split
     ·rw[if_pos (by omega)];rfl
     ·rw[if_neg (by omega),if_neg (by omega)];rfl
   ·rw[Int.zero_mul];unfold fm;rw[if_neg (by omega),if_neg (by omega)]
   ·unfold fm;rw[Int.one_mul];split
    ·rw[if_pos (by omega)]
    ·split
     ·rw[if_neg (by omega),if_pos (by omega)]
     ·rw[if_neg (by omega),if_neg (by omega)]
  rw[this];have hc:-1<=fm x y/\fm x y<=1:=by
   unfold fm;split
   ·omega
   ·split<;>omega
  rw[cp (by omega) (by omega)]
theorem Za (z:Int) (n:Nat):(z.natAbs:Int)*2^n=((z.natAbs*2^n:Nat):Int):=by simp
theorem IQ {m n:Nat}:a7 (m*2^n)<=a7 m+n:=by
 rcases rk m with h|h
 ·subst h;simp[agM]
 ·rw[y5 h];exact bS _
theorem atO {z:Int} {n:Nat} (aZ:a7 z.natAbs<=1900000) (ag:n<=1048576):uK (bf z,(n:Int),())=some (bf (z*2^n),0,()):=by
 obtain⟨cq,dv,a3⟩:=ip (z:=z) (by omega);unfold uK;dsimp only;rw[a5 (show¬((n:Int)< -1048576) by omega),a5 (show¬((n:Int)>1048576) by omega)];refine aP rfl (aP (q3 cq dv (by omega)) ?_);dsimp only;rw[bc (show(n:Int)>=0 by omega)];refine aP (M4 cq (by omega) (by omega)) ?_;rw[kk,Za];have ah:(dd (z.natAbs*2^n)).length<=100000:=rJ (by have:=IQ (m:=z.natAbs) (n:=n);omega);have aa:=uC (neg:=(bf z).1) (x:=((z.natAbs*2^n:Nat):Int)) (by omega) (by rw[w9];omega);refine aP aa ?_;dsimp only;congr 3;show(if decide (z<0)=true then _ else _)=_;rw[<-Za];by_cases h:z<0
 ·rw[if_pos (bc h),<-Int.neg_mul];congr 1;omega
 ·rw[if_neg (by simpa using h)];congr 1;omega
theorem Zf {m p:Int} (ay:0<p) (aU:0<=m):-m/p=if m %p=0 then-(m/p) else-(m/p+1):=by
 have J:=kr m p;have R:=uf m (show p≠0 by omega);have ae:=wy m ay;split
 ·rename_i h;refine(R9 (A:=-m) (B:=p) (q:=-(m/p)) (r:=0) ay ?_ (wz _) ay).1;rw[Int.mul_neg];omega
 ·rename_i h;refine(R9 (A:=-m) (B:=p) (q:=-(m/p+1)) (r:=p-m %p) ay ?_ (by omega) (by omega)).1;rw[Int.mul_neg,Int.mul_add,Int.mul_one];omega
theorem atN {z:Int} {n:Nat} (aZ:a7 z.natAbs<=1900000) (ag:n<=1048576) (PV:0<n):uK (bf z,-(n:Int),())=some (bf (z/2^n),0,()):=by
 obtain⟨cq,dv,a3⟩:=ip (z:=z) (by omega);have ay:=mi n;unfold uK;dsimp only;rw[a5 (show¬(-(n:Int)< -1048576) by omega),a5 (show¬(-(n:Int)>1048576) by omega)];refine aP rfl (aP (q3 cq dv (by omega)) ?_);dsimp only;rw[a5 (show¬(-(n:Int)>=0) by omega)];have aC:aY (0- -(n:Int))=(n:Int):=(by rw[cp (by omega) (by omega)];omega);rw[aC];refine aP (Ox cq dv (by omega) (by omega)) ?_;rw[kk];have iP:0<=(z.natAbs:Int)/2^n:=Int.ediv_nonneg (by omega) (by omega);have pK:(z.natAbs:Int)/2^n<=z.natAbs:=Int.ediv_le_self _ (by omega);have ah:∀x:Int,x<=z.natAbs->(dd x.toNat).length<=100000:=fun x ab=>Tb (l:=(bf z).2.1) cq a3 (by rw[kk];exact ab);have u7:(dd ((z.natAbs:Int)/2^n+1).toNat).length<=100001:=(by have J:=aiI (x:=((z.natAbs:Int)/2^n).toNat) (y:=1) (k:=100000) (ah _ pK) (by decide);have e:((z.natAbs:Int)/2^n+1).toNat=((z.natAbs:Int)/2^n).toNat+1:=(by omega);rw[e];exact J);dsimp only;refine aP (y:=(dd (if z<0/\(z.natAbs:Int) %2^n≠0 then(z.natAbs:Int)/2^n+1 else(z.natAbs:Int)/2^n).toNat,(false,([],())),())) ?_ ?_
 ·refine aP (y:=(decide (z<0/\(z.natAbs:Int) %2^n≠0),(false,([],())),())) ?_ ?_
  ·show(bif decide (z<0)==true then _ else _)=_;by_cases h:z<0
   ·simp[h]
   ·simp[h]
  ·dsimp only;by_cases h:z<0/\(z.natAbs:Int) %2^n≠0
   ·rw[bc h,if_pos h];refine aP (R2 (lZ _) (bp.cons.2 ⟨by decide,bp.nil⟩) (by have:=ah _ pK;omega) (by simp)) ?_;rw[Fr iP,show ak [1]=1 from by simp[ak]]
   ·rw[a5 h,if_neg h];rfl
 ·dsimp only;refine aP (uC ?_ ?_) ?_
  ·split<;>omega
  ·split
   ·omega
   ·have:=ah _ pK;omega
  ·dsimp only;congr 3;show(if decide (z<0)=true then _ else _)=_;by_cases h:z<0
   ·rw[if_pos (bc h)];have R:=Zf (m:=z.natAbs) ay (by omega);rw[show-(z.natAbs:Int)=z by omega] at R;rw[R];by_cases ae:(z.natAbs:Int) %2^n=0
    ·rw[if_pos ae,if_neg (by simp[ae])]
    ·rw[if_neg ae,if_pos ⟨h,ae⟩]
   ·rw[if_neg (by simpa using h),if_neg (by simp[h])];congr 1;omega
theorem ah9 {x y:Int} (ab:a7 x.natAbs<=1900000) (aB:a7 y.natAbs<=1900000) (awT:0<=x) (aU:y≠0):Ju (bf x,bf y,())=some (bf (x/y),bf (x %y),0,()):=by
 obtain⟨cq,dv,a3⟩:=ip (z:=x) (by omega);obtain⟨dn,dM,hL⟩:=ip (z:=y) (by omega);unfold Ju;dsimp only;refine aP (q3 dn dM (by omega)) ?_;dsimp only;have nw:(bf y).2.1≠[]:=fun e=>aU (Fq.1 e);rw[vt,a5 nw];refine aP (q3 cq dv (by omega)) ?_;dsimp only;refine aP (Vn cq dn dv dM (by omega) (by omega) nw) ?_;rw[kk,kk];dsimp only;have ag:(bf x).1=false:=a5 (by omega);have iP:0<=(x.natAbs:Int)/(y.natAbs:Int):=Int.ediv_nonneg (by omega) (by omega);have pK:(x.natAbs:Int)/(y.natAbs:Int)<=x.natAbs:=Int.ediv_le_self _ (by omega);have qF:0<=(x.natAbs:Int) %(y.natAbs:Int):=Int.emod_nonneg _ (by omega);have lx:(x.natAbs:Int) %(y.natAbs:Int)<(y.natAbs:Int):=Int.emod_lt_of_pos _ (by omega);have ah:∀z:Int,z<=x.natAbs->(dd z.toNat).length<=100000:=fun z aZ=>Tb (l:=(bf x).2.1) cq a3 (by rw[kk];exact aZ);have u7:∀z:Int,z<=y.natAbs->(dd z.toNat).length<=100000:=fun z aZ=>Tb (l:=(bf y).2.1) dn hL (by rw[kk];exact aZ);rw[ag];refine aP rfl ?_;dsimp only;refine aP (uC iP (by have:=ah _ pK;omega)) (aP (uC qF (by have:=u7 _ (Int.le_of_lt lx);omega)) ?_);dsimp only;have aC:(x.natAbs:Int)=x:=(by omega);rw[aC];have b4:x %(y.natAbs:Int)=x %y:=by
  rcases kJ y 0 with g|g
  ·rw[show(y.natAbs:Int)=-y by omega,Int.emod_neg]
  ·rw[show(y.natAbs:Int)=y by omega]
 rw[b4];congr 3;show(if(!(false==decide (y<0)))=true then _ else _)=_;rcases kJ y 0 with g|g
 ·rw[bc g,show(y.natAbs:Int)=-y by omega,Int.ediv_neg];simp
 ·rw[a5 (show¬y<0 by omega),show(y.natAbs:Int)=y by omega];simp
theorem at3 {x:Int} (ab:a7 x.natAbs<=900000) (aU:0<=x):Jx (bf x,())=some (bf (eW x.toNat),0,()):=by
 obtain⟨cq,dv,a3⟩:=ip (z:=x) (by omega);unfold Jx;refine aP (v9 (jY (by omega))) ?_;dsimp only;rw[a5 (by unfold fY;split;omega;split<;>omega)];refine aP (q3 cq dv (by omega)) ?_;have e:(bf x).2.1=dd x.toNat:=(by show dd x.natAbs=_;congr 1;omega);dsimp only;rw[e];refine aP (atb (by rw[show x.toNat=x.natAbs by omega];omega)) ?_;dsimp only;have hs:eW x.toNat<=x.toNat:=by
  obtain⟨gP,iC⟩:=Gk x.toNat;rcases rk (eW x.toNat) with g|g
  ·omega
  ·exact eu (Nat.le_mul_of_pos_left _ g) gP
 have aa:=uC (neg:=false) (x:=(eW x.toNat:Int)) (by omega) (by
  rw[w9];have:=rJ (n:=eW x.toNat) (k:=100000) (by
   rw[eo];have:=eo.1 ab;have R:=aab 900000 (32*100000) (by decide);omega)
  omega)
 rw[w9] at aa;refine aP aa ?_;rfl
theorem O3 {n:Int} (J:-9223372036854775808<=n) (R:n<=9223372036854775807):B2 (n,())=some (bf n,()):=by
 unfold B2;dsimp only;obtain⟨u,aQ,hq,p3⟩:∃u:Int,u=n.natAbs/\0<=u/\u<=9223372036854775808:=⟨_,rfl,by omega,by omega⟩;refine aP (y:=(u,(false,([],())),())) ?_ ?_
 ·rw[cB];split
  ·rename_i h;rw[o9 n,o9];congr 2;omega
  ·rename_i h;rw[o9];congr 2;omega
 dsimp only;rw[qY,Option.bind_some,vu hq (by omega),nK (x:=u/4294967296) (by omega) (by omega)];refine aP (BP (bp.cons.2 ⟨⟨by omega,by omega⟩,bp.cons.2 ⟨⟨by omega,by omega⟩,bp.nil⟩⟩) (by simp)) ?_;dsimp only;congr 2;congr 1;unfold gj;simp only[ak];by_cases h:n<0
 ·simp[h];omega
 ·simp[h];omega
theorem amW {l:List Int} (ah:bp l) (ag:l.length<=2) {b8:cb->Prop} (ar:b8 (ak l,())):U (loop (σ:=qo) (ρ:=cb) (fun(yo,eJ,_)=>
 bif decide (eJ<aW l) then
 (bb l eJ).bind fun e8=>
 (iE IntKind.u64 (bo e8) (aY (32*eJ))).bind fun eH=>
 some (.inl (fr IntKind.u64 yo eH,bR eJ,())) else
 some (.inr (yo,()))) (0,0,())) b8:=by
 refine U.steps l.length (fun i s=>s=(ak (l.take i),(i:Int),())) rfl ?_ ?_
 ·rintro i _ hi rfl;have ab:=ah.get hi;simp only[bc (show(i:Int)<aW l by simp only[bQ];omega),cond_true,dO hi,br];have J:=e6 (ah.take i);have R:=hS (ah.take i);rw[fl,iY (by omega),ud] at R;have aC:aY (32*(i:Int))=((32*i:Nat):Int):=(by rw[cp (by omega) (by omega)];simp);have aa:(2:Int)^(32*i)<=4294967296:=by
   rcases(show i=0\/i=1 by omega) with rfl|rfl<;>decide
  have ay:=mi (32*i);have ao:l[i]*2^(32*i)<4294967296*4294967296:=(by have:=nf aa ab.1;omega);have jw:0<=l[i]*2^(32*i):=qd ab.1 (fu ay);rw[aC,dT (x:=l[i]) (by omega) (by omega),p2 (by omega) (by omega),br,d4,yF jw (by omega),o5 (32*i) J R jw (by omega) (by omega) (Int.mul_emod_left _ _),cY (by omega)];refine U.au.2 ?_;rw[jE hi,ud,kK (2^(32*i))]
 ·rintro _ rfl;simp only[a5 (show¬((l.length:Int)<aW l) by simp only[bQ];omega),cond_false];rw[eC (bS _)];exact U.au.2 ar
theorem amX {z:Int} (aU:0<=z) (J:z<9223372036854775808):Jv (bf z,())=some (z,true,()):=by have aa:a7 z.natAbs<=64:=eo.2 (by omega);obtain⟨cq,dv,a3⟩:=ip (z:=z) (by omega);have ah:(bf z).2.1.length<=2:=rJ (by omega);unfold Jv;dsimp only;refine U.eq_iff.1 ?_;refine U.bs (q3 cq dv (by omega)) ?_;dsimp only;rw[a5 (show¬(aW (bf z).2.1>2) by simp only[bQ];omega),cond_false];refine U.bP (P:=fun r=>r=(z,())) (amW cq ah (by rw[kk];congr 1;omega)) ?_;rintro _ rfl;have ag:(bf z).1=false:=a5 (by omega);dsimp only;rw[ag];refine U.bs (y:=.inr (z,true,())) ?_ (U.au.2 rfl);refine aP rfl ?_;dsimp only[cond_false];rw[bc (show z<9223372036854775808 from J)];refine aP rfl ?_;dsimp only[cond_true];rw[cp (by omega) (by omega)]
theorem aa6 {l:List Int} (ah:bp l) (ag:l.length<=100000000):s0 (l,())=some (iF l,()):=by
 unfold s0;refine U.eq_iff.1 ?_;refine U.bP (P:=fun r=>∃n:Nat,r.1=(n:Int)/\n<=l.length/\(∀k,n<=k->(ac:k<l.length)->l[k]=0)/\en (l.take n)) ?_ ?_
 ·refine U.loop (fun s=>∃n:Nat,s.1=(n:Int)/\n<=l.length/\(∀k,n<=k->(ac:k<l.length)->l[k]=0)) (fun s=>s.1.toNat) ⟨l.length,rfl,bS _,fun k J R=>by omega⟩ ?_;rintro⟨_,_⟩ ⟨n,rfl,J,R⟩;rcases n with _|n
  ·refine U.au.2 ⟨0,rfl,eL _,R,fun x ab=>by simp at ab⟩
  ·have aC:aY (((n+1:Nat):Int)-1)=(n:Int):=(by rw[cp (by omega) (by omega)];omega);have aV:decide (((n+1:Nat):Int)>0)=true:=bc (by omega);simp only[aC,aV,beq_self_eq_true,cond_true,dO (show n<l.length from J),br];by_cases aU:l[n]=0
   ·rw[e5,bc aU];refine U.au.2 ⟨⟨n,rfl,by omega,fun k ac ga=>?_⟩,?_⟩
    ·rcases ch n k with h|h
     ·exact R k h ga
     ·obtain rfl:k=n:=(by omega);exact aU
    ·show(n:Int).toNat<((n+1:Nat):Int).toNat;omega
   ·rw[e5,a5 aU];refine U.au.2 ⟨n+1,rfl,J,R,fun x ab=>?_⟩;rw[nR,ct J] at ab;have ab:(l.take n++[l[n]]).getLast?=some x:=ab;rw[List.getLast?_concat] at ab;cases ab;exact aU
 ·rintro⟨_,_⟩ ⟨n,rfl,J,R,ae⟩;dsimp only;refine U.bP (P:=fun r=>r=(l.take n,())) ?_ ?_
  ·refine U.steps n (fun i s=>s=((i:Int),l.take i,())) rfl ?_ ?_
   ·rintro i _ hi rfl;simp only[bc (show(i:Int)<(n:Int) by omega),cond_true,dO (show i<l.length by omega),br];rw[fD (by simp;omega),cY (by omega)];refine U.au.2 ?_;show _=(_,l.take (i+1),());rw[nR,ct (by omega)];rfl
   ·rintro _ rfl;simp only[a5 (show¬((n:Int)<(n:Int)) by omega),cond_false];exact U.au.2 rfl
  ·rintro _ rfl;refine U.au.2 ?_;show(l.take n,())=_;rw[abH ah J R ae]
theorem Ht {neg:Bool} {l:List Int} (ah:bp l) (ag:l.length<=100000000):pv (neg,l,())=some (bf (gj (neg,l,())),()):=by
 unfold pv;refine aP (aa6 ah ag) ?_;have h:=VE (neg:=neg) (abE l) (abF l);have R:gj (neg,iF l,())=gj (neg,l,()):=(by unfold gj;simp only[abG ah]);rw[<-R,<-h];dsimp only;cases neg
 ·simp
 ·simp only[beq_self_eq_true,cond_true,Bool.true_and];congr 3;rw[decide_eq_decide];simp only[bQ];rw[<-List.length_pos_iff];omega
theorem Hu {neg:Bool} {l:List Int} {x:Int} (ah:bp l) (ag:l.length<=100000000) (ab:ak l=x):pv (neg,l,())=some (bf (if neg then-x else x),()):=by rw[Ht ah ag];unfold gj;simp only[ab]
theorem Dx {l:List Int} (h:bp l) (af:en l) (ag:l.length<=1000000):s0 (l,())=some (l,()):=by have J:=en.eq h af;rw[aa6 h (by omega)];show some (dd (ak l).toNat,())=_;rw[<-J]
theorem aaU {b:sG} (ah:bp b.2.1) (ag:b.2.1.length<=100000000):w2 (b,())=some (bf (gj b),()):=by unfold w2;exact aP (Ht ah ag) rfl
theorem MI {z:Int} (aZ:a7 z.natAbs<=3000000):w2 (bf z,())=some (bf z,()):=by rw[aaU (nZ z) (by have:=(ip aZ).2.2;omega),q6]
theorem as6 {z:Int} (aZ:a7 z.natAbs<=3000000):JY (bf z,())=some (bf (-z),()):=by unfold JY;refine aP (Ht (nZ z) (by have:=(ip aZ).2.2;omega)) ?_;rw[M8];show some (bf (-gj (bf z)),())=_;rw[q6]
theorem Sj {z:Int} (aZ:a7 z.natAbs<=3000000):B9 (bf z,())=some (bf z.natAbs,()):=by unfold B9;refine aP (Ht (nZ z) (by have:=(ip aZ).2.2;omega)) ?_;rw[abX (nZ z) (bf z).1];show some (bf ((gj (bf z)).natAbs:Int),())=_;rw[q6]
theorem Hw {z:Int} (aZ:a7 z.natAbs<=3000000):w3 (bf z,())=some (fY z,()):=by
 unfold w3;refine aP (MI aZ) ?_;simp only[vt,cB,Fq];unfold fY;split
 ·rfl
 ·show(bif decide (z<0) then _ else _)=_;rw[cB];split<;>rfl
theorem Sk {z:Int} (aZ:a7 z.natAbs<=3000000):E0 (bf z,())=some ((a7 z.natAbs:Int),()):=by obtain⟨cq,dv,a3⟩:=ip aZ;have h:=QO cq dv (by omega);rw[kk] at h;unfold B4 at h;unfold E0;refine aP (Dx cq dv (by omega)) ?_;dsimp only at h|-;simp only[Int.mul_comm 32];exact h
theorem aa7 {z:Int} (aZ:a7 z.natAbs<=900000) (aU:z≠0):uL (bf z,())=some ((cF z.natAbs:Int),()):=by
 obtain⟨cq,dv,a3⟩:=ip (z:=z) (by omega);unfold uL;refine aP (Dx cq dv (by omega)) ?_;have hv:=kk z;dsimp only;generalize(bf z).2.1=l at*;have lA:z.natAbs=(ak l).toNat:=(by omega);rw[lA];refine U.eq_iff.1 (U.bP (P:=fun q=>match q with|.inl _=>False|.inr r=>r=((cF (ak l).toNat:Int),())) ?_ ?_)
 ·refine U.steps l.length (fun i s=>s=((i:Int),())/\ak (l.take i)=0) ⟨rfl,rfl⟩ ?_ ?_
  ·rintro i _ hi ⟨rfl,J⟩;have ab:=cq.get hi;simp only[bc (show(i:Int)<aW l by simp only[bQ];omega),cond_true,dO hi,br,ew];by_cases hc:l[i]=0
   ·simp only[bc hc,lN,cond_false];refine U.au.2 ⟨by rw[cY (by omega)],?_⟩;rw[jE hi,hc,J];simp
   ·simp only[a5 hc,nN,cond_true];have R:=abP (x:=0) J hi cq hc;rw[R];obtain⟨n,iw⟩:=gn ab.1;rw[iw] at ab hc|-;have af:cF n<32:=jn (A9 (by omega)) (eo.2 (by omega));refine U.of_eq (aP (abO (n:=n) (by omega) (by omega)) rfl) ?_;show(aY (aY (32*(i:Int))+(cF n:Int)),())=_;rw[cp (x:=32*(i:Int)) (by omega) (by omega),cp (by omega) (by omega)];congr 1
  ·rintro _ ⟨rfl,J⟩;exfalso;rw[eC (bS _)] at J;omega
 ·rintro(q|q) ai
  ·exact ai.elim
  ·have ai:q=_:=ai;rw[ai];exact U.au.2 rfl
theorem aaw {n:Nat} (ag:n<=1000000000):∃w p:Nat,n=32*w+p/\p<32/\j8 IntKind.i64 (n:Int) 32=some (w:Int)/\jB (n:Int) 32=some (p:Int):=by
 refine⟨n/32,n %32,by omega,by omega,?_,?_⟩
 ·unfold j8;rw[if_pos (by decide),Ih (by omega),wrap64 (by omega) (by omega)];simp
 ·unfold jB;rw[if_pos (by decide),Ii (by omega)];simp
theorem ati {a:List Int} {n:Nat} (aG:bp a) (k3:a.length<=10000000) (ag:n<=100000000):U (J2 (a,(n:Int),())) (fun r=>∃out,r=(out,())/\bp out/\ak out=ak a*2^n/\out.length=n/32+a.length+1):=by
 unfold J2;obtain⟨w,p,hw,ay,ai,hr⟩:=aaw (n:=n) (by omega);have gZ:=mi p;have bB:=AN (p:=p) (by omega);have KU:(2:Int)^p<=2147483648:=Dq (by omega);dsimp only;refine U.bs ai (U.bs (lE (by omega)) ?_);refine U.bP (P:=fun r=>∃c out,r=(c,out,())/\out.length=w+a.length/\bp out/\0<=c/\c<2^p/\ak out+bm (w+a.length)*c=bm w*(2^p*ak a)) ?_ ?_
 ·refine U.steps a.length (fun i s=>∃c out,s=(c,(i:Int),out,())/\out.length=w+i/\bp out/\0<=c/\c<2^p/\ak out+bm (w+i)*c=bm w*(2^p*ak (a.take i))) ⟨0,List.replicate w 0,rfl,by simp,bp.rb _,by omega,gZ,by simp[ak,yq]⟩ ?_ ?_
  ·rintro i _ hi ⟨c,out,rfl,aK,aL,a8,bH,dp⟩;have ab:=aG.get hi;simp only[bc (show(i:Int)<aW a by simp only[bQ];omega),cond_true,dO hi,br,hr];have cg:a[i]*2^p<4294967296*2^p:=D4 ab.2 gZ;have fb:a[i]*2^p<=4294967295*2^p:=oF (by omega) (by omega);have jw:0<=a[i]*2^p:=qd ab.1 (fu gZ);obtain⟨t,af,t0,t1,t2⟩:∃t,t=c+a[i]*2^p/\0<=t/\t<18446744073709551616/\t<4294967296*2^p:=⟨_,rfl,by omega,by omega,by omega⟩;have aV:iE IntKind.u64 (bo a[i]) (p:Int)=some (a[i]*2^p):=by
    rw[dT (x:=a[i]) (by omega) (by omega),p2 (by omega) (by omega),d4];congr 1;omega
   have b4:fr IntKind.u64 c (a[i]*2^p)=t:=(by rw[o5 p a8 bH jw (by omega) (by omega) (Int.mul_emod_left _ _),af]);have fo:t/4294967296<2^p:=yE (by decide) (by rw[kK];omega);rw[aV,br,b4,fD (by simp;omega),qY,wk];refine U.au.2 ⟨t/4294967296,out++[t %4294967296],by rw[cY (by omega)],by simp[aK];omega,aL.snoc (by omega) (by omega),by omega,fo,?_⟩;rw[t7,aK,show w+(i+1)=(w+i)+1 by omega,iW,jE hi];have Kr:=kr t 4294967296;rw[DY] at dp|-;generalize t/4294967296=q at*;generalize t %4294967296=r at*;generalize(2:Int)^p=P at*;generalize a[i]=y at*;have uS:r=c+y*P-4294967296*q:=(by omega);clear Kr aV b4 fo af t0 t1 t2 cg fb jw bB KU;subst uS;grind
  ·rintro _ ⟨c,out,rfl,aK,aL,a8,bH,dp⟩;simp only[a5 (show¬((a.length:Int)<aW a) by simp only[bQ];omega),cond_false];rw[eC (bS _)] at dp;exact U.au.2 ⟨c,out,rfl,aK,aL,a8,bH,dp⟩
 ·rintro _ ⟨c,out,rfl,aK,aL,a8,bH,dp⟩;dsimp only;rw[nK a8 (by omega),fD (by simp;omega)];refine U.au.2 ⟨out++[c],rfl,aL.snoc a8 (by omega),?_,by simp;omega⟩;rw[t7,aK,dp,ud,hw,Int.pow_add];grind
theorem asP {a b:List Int} (aG:bp a) (aa:bp b) (ta:en a) (tb:en b) (k3:a.length<=10000000) (gd:b.length<=10000000):J1 (a,b,())=some (fm (ak a) (ak b),()):=by
 unfold J1;refine U.eq_iff.1 ?_;simp only[ew,bQ];by_cases ag:a.length=b.length
 ·rw[bc (show(a.length:Int)=b.length by omega)];simp only[lN,cond_false];refine U.bP (P:=fun q=>match q with|.inl _=>ak a=ak b|.inr r=>r=(fm (ak a) (ak b),())) ?_ ?_
  ·refine U.steps a.length (fun i s=>s=(((a.length:Nat):Int)-1-i,())/\ak (a.drop (a.length-i))=ak (b.drop (a.length-i))) ⟨?_,?_⟩ ?_ ?_
   ·rw[cp (by omega) (by omega)];simp
   ·rw[uk (by omega),uk (by omega)]
   ·rintro i _ hi ⟨rfl,J⟩;obtain⟨k,ac⟩:∃k,a.length=k+1+i:=⟨a.length-1-i,by omega⟩;have aC:((a.length:Nat):Int)-1-(i:Int)=(k:Int):=(by omega);have pM:k<a.length:=(by omega);have vp:k<b.length:=(by omega);rw[show a.length-i=k+1 by omega] at J;simp only[aC,bc (show(k:Int)>=0 by omega),cond_true,dO pM,dO vp,br];by_cases aE:a[k]=b[k]
    ·simp only[bc aE,lN,cond_false];refine U.au.2 ⟨?_,?_⟩
     ·rw[cp (by omega) (by omega)];congr 1;omega
     ·rw[show a.length-(i+1)=k by omega,nI pM,nI vp,aE,J]
    ·simp only[a5 aE,nN,cond_true];rw[cB];refine U.ite (fun h=>?_) fun h=>?_
     ·refine U.au.2 ?_;show((-1:Int),())=_;unfold fm;rw[if_pos (M9 aG aa pM vp J h)]
     ·refine U.au.2 ?_;show((1:Int),())=_;have:=M9 aa aG vp pM J.symm (by omega);unfold fm;rw[if_neg (by omega),if_pos this]
   ·rintro _ ⟨rfl,J⟩;have aC:¬(((a.length:Nat):Int)-1-(a.length:Int)>=0):=(by omega);simp only[a5 aC,cond_false];refine U.au.2 ?_;simpa using J
  ·rintro(q|q) ai
   ·refine U.au.2 ?_;have ai:ak a=ak b:=ai;unfold fm;rw[ai];simp
   ·have ai:q=_:=ai;rw[ai];exact U.au.2 rfl
 ·rw[a5 (show¬(a.length:Int)=b.length by omega)];simp only[nN,cond_true];rw[cB];unfold fm;refine U.ite (fun h=>U.au.2 ?_) fun h=>U.au.2 ?_
  ·rw[if_pos (wh aG aa tb (by omega))]
  ·have:=wh aa aG ta (by omega);rw[if_neg (by omega),if_pos this]
theorem anG {a:List Int} {w p i:Nat} {X:Int} (aG:bp a) (ay:p<32) (hi:w+i<a.length) (h3:X=ak (a.drop w)):X/2^p/bm i %4294967296=(a[w+i]+4294967296*a.getD (w+i+1) 0)/2^p %4294967296:=by
 have gZ:=mi p;have bB:=AN (p:=p) (by omega);have bd:X/bm i=(a[w+i]+4294967296*a.getD (w+i+1) 0)+4294967296*(4294967296*ak (a.drop (w+i+2))):=by
  have J:a.drop w=(a.drop w).take i++a.drop (w+i):=by
   conv=>lhs;rw[<-pf i (a.drop w)]
   rw[uj]
  have R:X=ak ((a.drop w).take i)+bm i*ak (a.drop (w+i)):=by
   rw[h3]
   conv=>lhs;rw[J]
   rw[sz,fl,pe,iY (by omega)]
  have ae:=e6 ((aG.drop w).take i);have aI:=hS ((aG.drop w).take i);rw[fl,pe,iY (by omega)] at aI;have aX:ak (a.drop (w+i))=a[w+i]+4294967296*ak (a.drop (w+i+1)):=nI (by omega);have bI:ak (a.drop (w+i+1))=a.getD (w+i+1) 0+4294967296*ak (a.drop (w+i+2)):=by
   rcases ch (w+i+1) a.length with g|g
   ·rw[mN g];exact nI g
   ·rw[s6 g,uk g,uk (by omega)];rfl
  rw[R,Bw _ _ (by have:=f3 i;omega),ue ae aI,aX,bI];grind
 have J:X/2^p/bm i=X/bm i/2^p:=(by rw[yD (fu gZ),yD (fu (f3 i)),kK]);rw[J,bd];generalize a[w+i]+4294967296*a.getD (w+i+1) 0=t;have R:∀Y:Int,t+4294967296*(4294967296*Y)=t+2^p*(4294967296*(2^(32-p)*Y)):=fun Y=>(by generalize(2:Int)^p=P at*;generalize(2:Int)^(32-p)=P' at*;rw[show(4294967296:Int)*(4294967296*Y)=(P*P')*(4294967296*Y) by rw[<-bB]];grind);rw[R,Bw _ _ (by omega),D3]
theorem anX {a:List Int} {w p:Nat} (aG:bp a) (ay:p<32) (h:w<a.length):(decide (ak a %(bm w*2^p)≠0))=(decide (ak (a.take w)≠0)||decide (a[w] %2^p≠0)):=by have gZ:=mi p;have bB:=AN (p:=p) (by omega);have fR:=e6 (aG.take w);have u9:=hS (aG.take w);rw[fl,iY (by omega)] at u9;have J:=Yz (x:=ak (a.take w)) (b:=bm w) (y:=ak (a.drop w)) (P:=2^p) (P':=0) (f3 w) ⟨fR,u9⟩ gZ;rw[<-t8 a w (by omega)] at J;have R:ak (a.drop w) %2^p=a[w] %2^p:=(by rw[nI h,bB,ug,D3]);rw[R] at J;by_cases bT:ak (a.take w)=0<;>by_cases bz:a[w] %2^p=0<;>simp[bT,bz,J]
theorem aa4 {a:List Int} {n:Nat} (aG:bp a) (k3:a.length<=10000000) (ag:n<=1000000000):U (E2 (a,(n:Int),())) (fun r=>∃out,r=(out,decide (ak a %2^n≠0),())/\bp out/\ak out=ak a/2^n/\out.length<=a.length):=by
 unfold E2;obtain⟨w,p,hw,ay,ai,hr⟩:=aaw (n:=n) (by omega);have gZ:=mi p;have bB:=AN (p:=p) (by omega);have KU:(2:Int)^p<=2147483648:=Dq (by omega);have Pn:(2:Int)^n=bm w*2^p:=(by rw[ud,hw,Int.pow_add]);have ts:=e6 aG;dsimp only;refine U.bP (P:=fun r=>r=(decide (ak (a.take w)≠0),())) ?_ ?_
 ·have key:∀i,min w a.length=i->decide (ak (a.take w)≠0)=decide (ak (a.take i)≠0):=fun i hi=>by
   rcases Nat.le_total w a.length with g|g
   ·rw[iY g] at hi;rw[hi]
   ·rw[Nat.min_eq_right g] at hi;rw[<-hi,eC g,eC (bS _)]
  refine U.steps (min w a.length) (fun i s=>s=(decide (ak (a.take i)≠0),(i:Int),())) (by simp[ak]) ?_ ?_
  ·rintro i _ hi rfl;have ab:=aG.get (n:=i) (by omega);simp only[ai,br,bc (show(i:Int)<(w:Int) by omega),beq_self_eq_true,cond_true,bc (show(i:Int)<aW a by simp only[bQ];omega),dO (show i<a.length by omega),cY (show i<9223372036854775807 by omega),ew];have ae:ak (a.take (i+1))=ak (a.take i)+bm i*a[i]:=jE (by omega);have aI:=e6 (aG.take i);have aX:=f3 i;by_cases g:ak (a.take i)=0
   ·rw[a5 (show¬(ak (a.take i)≠0) from fun h=>h g)];refine U.au.2 ?_;show((!decide (a[i]=0)),_,())=_;congr 1;rw[ae,g];by_cases bz:a[i]=0
    ·simp[bz]
    ·have:=wA aX (show 0<a[i] by omega);rw[a5 bz,bc (show(0:Int)+bm i*a[i]≠0 by omega)];rfl
   ·rw[bc (show ak (a.take i)≠0 from g)];refine U.au.2 ?_;show(true,_,())=_;congr 1;have:=qd (fu aX) ab.1;rw[ae,bc (show ak (a.take i)+bm i*a[i]≠0 by omega)]
  ·rintro _ rfl;simp only[ai,br];by_cases g:min w a.length<w
   ·simp only[bc (show((min w a.length:Nat):Int)<(w:Int) by omega),beq_self_eq_true,cond_true,a5 (show¬(((min w a.length:Nat):Int)<aW a) by simp only[bQ];omega),cond_false,br];refine U.au.2 ?_;rw[key _ rfl]
   ·simp only[a5 (show¬(((min w a.length:Nat):Int)<(w:Int)) by omega),show(false==true)=false from rfl,cond_false,br];refine U.au.2 ?_;rw[key _ rfl]
 rintro _ rfl;dsimp only;refine U.bs hr (U.bs ai ?_);rw[Pn];rcases Nat.lt_or_ge w a.length with h|h
 ·obtain⟨X,h3⟩:∃X,X=ak (a.drop w):=⟨_,rfl⟩;have td:0<=X:=(by rw[h3];exact e6 (aG.drop w));have ly:ak a=ak (a.take w)+bm w*X:=(by rw[h3];exact t8 a w (by omega));have fR:=e6 (aG.take w);have u9:=hS (aG.take w);rw[fl,iY (by omega)] at u9;have Pp:ak a/(bm w*2^p)=X/2^p:=by
   rw[<-yD (fu (f3 w)),ly,Bw _ _ (by have:=f3 w;omega),ue fR u9,Int.zero_add]
  obtain⟨m,ao⟩:∃m,a.length=w+m:=⟨a.length-w,by omega⟩;have akE:X<bm m:=(by have:=hS (aG.drop w);rw[pe,show a.length-w=m by omega,<-h3] at this;exact this);have eQ:=anX aG ay h;refine U.bP (P:=fun r=>∃out,r=(decide (ak a %(bm w*2^p)≠0),out,())/\out.length=m/\bp out/\ak out=X/2^p) ?_ ?_
  ·refine U.steps m (fun i s=>∃out,s=(if i=0 then decide (ak (a.take w)≠0) else decide (ak a %(bm w*2^p)≠0),((w+i:Nat):Int),out,())/\out.length=i/\bp out/\ak out+bm i*(X/2^p/bm i)=X/2^p) ⟨[],rfl,rfl,bp.nil,by simp[ak,DZ]⟩ ?_ ?_
   ·rintro i _ hi ⟨out,rfl,aK,aL,a8⟩;have ab:=aG.get (n:=w+i) (by omega);have aB:=aG.getD (w+i+1);obtain⟨t,af,t0,t1⟩:∃t,t=a[w+i]+4294967296*a.getD (w+i+1) 0/\0<=t/\t<18446744073709551616:=⟨_,rfl,by omega,by omega⟩;have KY:X/2^p/bm i %4294967296=t/2^p %4294967296:=(by rw[af];exact anG aG ay (by omega) h3);have iP:0<=t/2^p:=Int.ediv_nonneg t0 (Int.le_of_lt gZ);have aV:bR ((w+i:Nat):Int)=((w+i+1:Nat):Int):=cY (by omega);dsimp only;rw[dh (bc (show((w+i:Nat):Int)<aW a by simp only[bQ];omega))];refine U.bP (P:=fun r=>r=(decide (ak a %(bm w*2^p)≠0),out++[t/2^p %4294967296],())) ?_ ?_
    ·refine U.bs (dO (by omega)) ?_;refine U.bP (P:=fun r=>r=(t,out,())) ?_ ?_
     ·rw[aV,cB];refine U.ite (fun g=>?_) fun g=>?_
      ·have g:w+i+1<a.length:=(by simp only[bQ] at g;omega);rw[dO g,br,dT (x:=a[w+i+1]) (by have:=aG.get g;omega) (by have:=aG.get g;omega),p2 (by decide) (by decide)];rw[mN g] at af aB;have pw:a[w+i+1]*2^(32:Int).toNat %18446744073709551616=4294967296*a[w+i+1]:=by
        rw[show(2:Int)^(32:Int).toNat=4294967296 from rfl];omega
       rw[br,pw,dT (by omega) (by omega),o5 32 ab.1 ab.2 (by omega) (by omega) (by omega) (by omega)];refine U.au.2 ?_;rw[<-af]
      ·have g:a.length<=w+i+1:=(by simp only[bQ] at g;omega);rw[s6 g] at af;rw[dT (by omega) (by omega)];refine U.au.2 ?_;rw[af];simp
     ·rintro _ rfl;dsimp only;refine U.bP (P:=fun r=>r=(decide (ak a %(bm w*2^p)≠0),out,())) ?_ ?_
      ·refine U.bs ai ?_;by_cases z6:i=0
       ·subst z6;have aa:(((w+0:Nat):Int)==(w:Int))=true:=(by simp);rw[aa];simp only[beq_self_eq_true,cond_true];refine U.bs (dO (by omega)) ?_;rw[abk (by omega) (by omega),br,d4,Int.one_mul,yF (by omega) (by omega),nK (by omega) (by omega),Ue p (aG.get (n:=w+0) (by omega)).1 (aG.get (n:=w+0) (by omega)).2 (by omega),ew,eQ];have uR:a[w+0]=a[w]:=rfl;rw[uR];by_cases bz:a[w] %2^p=0
        ·rw[bc bz];refine U.au.2 ?_;simp[bz]
        ·rw[a5 bz];refine U.au.2 ?_;simp[bz]
       ·have aa:(((w+i:Nat):Int)==(w:Int))=false:=by
         rw[e5];exact a5 (by omega)
        rw[aa];simp only[show(false==true)=false from rfl,cond_false];refine U.au.2 ?_;rw[if_neg z6]
      ·rintro _ rfl;dsimp only;rw[yi (by omega) (by omega),Option.bind_some,Int.toNat_natCast,fD (by simp;omega),wk];exact U.au.2 rfl
    ·rintro _ rfl;dsimp only;refine U.au.2 ⟨out++[t/2^p %4294967296],by rw[aV,if_neg (by omega)];rfl,by simp[aK],aL.snoc (by omega) (by omega),?_⟩;rw[t7,aK,<-KY,iW,Int.mul_comm 4294967296 (bm i),<-Int.ediv_ediv_of_nonneg (Int.le_of_lt (f3 i))];have eO:=Int.emod_add_mul_ediv (X/2^p/bm i) 4294967296;generalize X/2^p/bm i %4294967296=r at*;generalize X/2^p/bm i/4294967296=q at*;rw[<-eO] at a8;clear KY eO af t0 t1 iP ab aB aV;grind
   ·rintro _ ⟨out,rfl,aK,aL,a8⟩;dsimp only;rw[df (a5 (show¬(((w+m:Nat):Int)<aW a) by simp only[bQ];omega)),if_neg (by omega)];refine U.au.2 ⟨out,rfl,aK,aL,?_⟩;have J:0<=X/2^p:=Int.ediv_nonneg td (Int.le_of_lt gZ);have R:X/2^p<=X:=Int.ediv_le_self _ td;rw[Int.ediv_eq_zero_of_lt J (by omega)] at a8;simpa using a8
  ·rintro _ ⟨out,rfl,aK,aL,a8⟩;exact U.au.2 ⟨out,rfl,aL,by rw[a8,Pp],by omega⟩
 ·have J:=hS aG;have R:=sl h;have ae:bm w*1<=bm w*2^p:=nf (by omega) (fu (f3 w));rw[ue ts (by omega),yF ts (by omega),eC h];refine U.bP (P:=fun r=>r=(decide (ak a≠0),[],())) ?_ ?_
  ·refine U.steps 0 (fun i s=>s=(decide (ak a≠0),(w:Int),[],())) rfl (fun i s hi=>by omega) ?_;rintro _ rfl;dsimp only;rw[df (a5 (show¬((w:Int)<aW a) by simp only[bQ];omega))];exact U.au.2 rfl
  ·rintro _ rfl;exact U.au.2 ⟨[],rfl,bp.nil,rfl,by simp⟩
theorem asM {a b:List Int} (aG:bp a) (aa:bp b) (k3:a.length<=10000000) (gd:b.length<=10000000):U (J0 (a,b,())) (fun r=>∃out,r=(out,())/\bp out/\ak out=ak a+ak b/\out.length<=a.length+b.length+1):=by
 unfold J0;dsimp only;obtain⟨n,ag⟩:∃n,n=max a.length b.length:=⟨_,rfl⟩;have alo:(if aW b>aW a then aW b else aW a)=(n:Int):=(by simp only[bQ];split<;>omega);rw[alo];refine U.bP (P:=fun r=>∃c out,r=(c,out,())/\out.length=n/\bp out/\0<=c/\c<=1/\ak out+bm n*c=ak a+ak b) ?_ ?_
 ·refine U.steps n (fun i s=>∃c out,s=(c,(i:Int),out,())/\out.length=i/\bp out/\0<=c/\c<=1/\ak out+bm i*c=ak (a.take i)+ak (b.take i)) ⟨0,[],rfl,rfl,bp.nil,by omega,by omega,by simp[ak]⟩ ?_ ?_
  ·rintro i _ hi ⟨c,out,rfl,J,R,ae,aI,aX⟩;have ab:=aG.getD i;have aB:=aa.getD i;obtain⟨t,af,t0,t1,t2⟩:∃t,t=c+a.getD i 0+b.getD i 0/\0<=t/\t<18446744073709551616/\t/4294967296<=1:=⟨_,rfl,by omega,by omega,by omega⟩;dsimp only;rw[dh (bc (show(i:Int)<(n:Int) by omega))];refine U.bP (P:=fun r=>r=(t/4294967296,out++[t %4294967296],())) ?_ ?_
   ·refine U.bP (P:=fun r=>r=(c+a.getD i 0,out,())) ?_ ?_
    ·simp only[cB];refine U.ite (fun h=>?_) fun h=>?_
     ·have h:i<a.length:=(by simp only[bQ] at h;omega);rw[dO h];rw[mN h] at ab|-;refine U.au.2 ?_;rw[dT (x:=a[i]) (by omega) (by omega),dT (by omega) (by omega)]
     ·have h:a.length<=i:=(by simp only[bQ] at h;omega);rw[s6 h,Int.add_zero];exact U.au.2 rfl
    rintro _ rfl;refine U.bP (P:=fun r=>r=(t,out,())) ?_ ?_
    ·simp only[cB];refine U.ite (fun h=>?_) fun h=>?_
     ·have h:i<b.length:=(by simp only[bQ] at h;omega);rw[dO h];rw[mN h] at aB af;refine U.au.2 ?_;rw[dT (x:=b[i]) (by omega) (by omega),dT (by omega) (by omega),af]
     ·have h:b.length<=i:=(by simp only[bQ] at h;omega);rw[s6 h,Int.add_zero] at af;rw[af];exact U.au.2 rfl
    ·rintro _ rfl;dsimp only;rw[fD (by simp;omega),wk,qY];exact U.au.2 rfl
   ·rintro _ rfl;dsimp only;refine U.au.2 ⟨t/4294967296,out++[t %4294967296],by rw[cY (by omega)],by simp[J],R.snoc (by omega) (by omega),by omega,t2,?_⟩;rw[t7,J,iW,HR,HR];have:=Int.emod_add_mul_ediv t 4294967296;generalize t/4294967296=q at*;generalize t %4294967296=r at*;generalize a.getD i 0=x at*;generalize b.getD i 0=y at*;have e:r=c+x+y-4294967296*q:=(by omega);clear this af t0 t1 t2;subst e;grind
  ·rintro _ ⟨c,out,rfl,J,R,ae,aI,aX⟩;dsimp only;rw[df (a5 (show¬((n:Int)<(n:Int)) by omega))];rw[List.take_of_length_le (by omega),List.take_of_length_le (by omega)] at aX;exact U.au.2 ⟨c,out,rfl,J,R,ae,aI,aX⟩
 ·rintro _ ⟨c,out,rfl,J,R,ae,aI,aX⟩;dsimp only;rw[fD (by simp;omega),nK ae (by omega)];refine U.au.2 ⟨out++[c],rfl,R.snoc ae (by omega),?_,by simp;omega⟩;rw[t7,J,aX]
theorem atQ (x:Int):ec .u64 x 63=some (x/9223372036854775808):=by have:ec .u64 x 63=some (x.fdiv 9223372036854775808):=rfl;rw[this,Ig _ (by decide)]
theorem aa5 {a b:List Int} (aG:bp a) (aa:bp b) (k3:a.length<=10000000) (fb:b.length<=a.length) (hv:ak b<=ak a):U (E3 (a,b,())) (fun r=>∃out,r=(out,())/\bp out/\ak out=ak a-ak b/\out.length=a.length):=by
 unfold E3;dsimp only;refine U.bP (P:=fun r=>∃out c,r=(out,())/\out.length=a.length/\bp out/\0<=c/\c<=1/\ak out-bm a.length*c=ak a-ak b) ?_ ?_
 ·refine U.steps a.length (fun i s=>∃c out,s=(c,(i:Int),out,())/\out.length=i/\bp out/\0<=c/\c<=1/\ak out-bm i*c=ak (a.take i)-ak (b.take i)) ⟨0,[],rfl,rfl,bp.nil,by omega,by omega,by simp[ak]⟩ ?_ ?_
  ·rintro i _ hi ⟨c,out,rfl,J,R,ae,aI,aX⟩;have ab:=aG.get hi;have aB:=aa.getD i;obtain⟨d,aN,cJ,cz⟩:∃d,d=a[i]-c-b.getD i 0/\-4294967296<=d/\d<4294967296:=⟨_,rfl,by omega,by omega⟩;dsimp only;rw[dh (bc (show(i:Int)<aW a by simp only[bQ];omega))];refine U.bP (P:=fun r=>r=(-(d/4294967296),out++[d %4294967296],())) ?_ ?_
   ·refine U.bs (dO hi) ?_;refine U.bP (P:=fun r=>r=(d %18446744073709551616,out,())) ?_ ?_
    ·simp only[cB];refine U.ite (fun h=>?_) fun h=>?_
     ·have h:i<b.length:=(by simp only[bQ] at h;omega);rw[dO h];rw[mN h] at aN aB;refine U.au.2 ?_;simp only[o9];rw[aN];congr 1;omega
     ·have h:b.length<=i:=(by simp only[bQ] at h;omega);rw[s6 h] at aN;refine U.au.2 ?_;simp only[o9];rw[aN];congr 1;omega
    ·rintro _ rfl;dsimp only;rw[fD (by simp;omega),wk,atQ];refine U.au.2 ?_;have aK:d %18446744073709551616/9223372036854775808=-(d/4294967296):=(by omega);have aL:d %18446744073709551616 %4294967296=d %4294967296:=(by omega);rw[aK,aL]
   ·rintro _ rfl;dsimp only;refine U.au.2 ⟨-(d/4294967296),out++[d %4294967296],by rw[cY (by omega)],by simp[J],R.snoc (by omega) (by omega),by omega,by omega,?_⟩;rw[t7,J,iW,jE hi,HR];have:=Int.emod_add_mul_ediv d 4294967296;generalize d/4294967296=q at*;generalize d %4294967296=r at*;generalize b.getD i 0=y at*;generalize a[i]=x at*;have e:r=x-c-y-4294967296*q:=(by omega);clear this aN cJ cz;subst e;grind
  ·rintro _ ⟨c,out,rfl,J,R,ae,aI,aX⟩;dsimp only;rw[df (a5 (show¬((a.length:Int)<aW a) by simp only[bQ];omega))];refine U.au.2 ⟨out,c,rfl,J,R,ae,aI,?_⟩;rw[aX,List.take_of_length_le (Nat.le_refl _),List.take_of_length_le fb]
 ·rintro _ ⟨out,c,rfl,J,R,ae,aI,aX⟩;have bI:=hS R;have eO:=f3 a.length;rw[J] at bI;have hc:c=0:=by
   rcases kJ 0 c with h|h
   ·obtain rfl:c=1:=(by omega);omega
   ·omega
  subst hc;exact U.au.2 ⟨out,rfl,R,by rw[<-aX];simp,J⟩
theorem Mz {x y:Int} (ab:a7 x.natAbs<=3000000) (aB:a7 y.natAbs<=3000000):zo (bf x,bf y,())=some (bf (x+y),()):=by
 obtain⟨cq,dv,a3⟩:=ip ab;obtain⟨dn,dM,hL⟩:=ip aB;unfold zo;dsimp only;refine U.eq_iff.1 ?_;refine U.bs (Dx cq dv (by omega)) (U.bs (Dx dn dM (by omega)) ?_);dsimp only;have oY:=kk x;have Gd:=kk y;have DH:(bf x).1=decide (x<0):=rfl;have auj:(bf y).1=decide (y<0):=rfl;rw[DH,auj];by_cases hs:(decide (x<0)==decide (y<0))=true
 ·rw[dh hs];refine U.bP (asM cq dn (by omega) (by omega)) ?_;rintro _ ⟨o,rfl,hQ,mf,x0⟩;refine U.bs (Hu hQ (by show o.length<=_;omega) mf) (U.au.2 ?_);dsimp only;congr 2;have:decide (x<0)=decide (y<0):=(by simpa using hs);have ae:x<0↔y<0:=(by simpa using this);rw[oY,Gd];by_cases h:x<0
  ·rw[if_pos (bc h)];have:=ae.1 h;omega
  ·rw[if_neg (by simpa using h)];have:=mt ae.2 h;omega
 ·rw[df (by simpa using hs)];have ae:¬(x<0↔y<0):=(by simpa using hs);refine U.bs (asP cq dn dv dM (by omega) (by omega)) ?_;dsimp only;rw[cB];refine U.ite (fun g=>?_) fun g=>?_
  ·have fb:=BV.1 g;have ah:(bf y).2.1.length<=(bf x).2.1.length:=by
    rcases ch (bf x).2.1.length (bf y).2.1.length with k|k
    ·have:=wh cq dn dM k;omega
    ·exact k
   refine U.bP (aa5 cq dn (by omega) ah fb) ?_;rintro _ ⟨o,rfl,hQ,mf,x0⟩;refine U.bs (Hu hQ (by show o.length<=_;omega) mf) (U.au.2 ?_);dsimp only;congr 2;rw[oY,Gd] at*;by_cases h:x<0
   ·rw[if_pos (bc h)];have:¬y<0:=fun aI=>ae ⟨fun _=>aI,fun _=>h⟩;omega
   ·rw[if_neg (by simpa using h)];have:y<0:=Decidable.byContradiction fun aI=>ae ⟨fun aX=>absurd aX h,fun aX=>absurd aX aI⟩;omega
  ·have fb:ak (bf x).2.1<ak (bf y).2.1:=Int.not_le.1 (mt BV.2 g);have ah:(bf x).2.1.length<=(bf y).2.1.length:=by
    rcases ch (bf y).2.1.length (bf x).2.1.length with k|k
    ·have:=wh dn cq dv k;omega
    ·exact k
   refine U.bP (aa5 dn cq (by omega) ah (Int.le_of_lt fb)) ?_;rintro _ ⟨o,rfl,hQ,mf,x0⟩;refine U.bs (Hu hQ (by show o.length<=_;omega) mf) (U.au.2 ?_);dsimp only;congr 2;rw[oY,Gd] at*;by_cases h:x<0
   ·have aI:¬y<0:=fun aI=>ae ⟨fun _=>aI,fun _=>h⟩;rw[if_neg (by simpa using aI)];omega
   ·have aI:y<0:=Decidable.byContradiction fun aI=>ae ⟨fun aX=>absurd aX h,fun aX=>absurd aX aI⟩;rw[if_pos (bc aI)];omega
theorem atj {x y:Int} (ab:a7 x.natAbs<=3000000) (aB:a7 y.natAbs<=3000000):JZ (bf x,bf y,())=some (bf (x-y),()):=by unfold JZ;refine aP (as6 aB) ?_;dsimp only;exact aP (Mz ab (by rw[Int.natAbs_neg];exact aB)) (by rw[<-Int.sub_eq_add_neg])
theorem Sr {n:Int} (J:-9223372036854775808<=n) (R:n<=9223372036854775807):Ca (n,())=some (bf n,()):=by
 unfold Ca;dsimp only;obtain⟨u,aQ,hq,p3⟩:∃u:Int,u=n.natAbs/\0<=u/\u<=9223372036854775808:=⟨_,rfl,by omega,by omega⟩;refine aP (y:=(u,(false,([],())),())) ?_ ?_
 ·rw[cB];split
  ·rename_i h;have aC:bR n=n+1:=(by unfold bR;exact wrap64 (by omega) (by omega));rw[aC,cp (by omega) (by omega),dT (x:=0-(n+1)) (by omega) (by omega),dT (by omega) (by omega)];congr 2;omega
  ·rename_i h;rw[dT (by omega) (by omega)];congr 2;omega
 dsimp only;rw[qY,Option.bind_some,wk u,nK (x:=u/4294967296) (by omega) (by omega)];refine aP (Ht (bp.cons.2 ⟨⟨by omega,by omega⟩,bp.cons.2 ⟨⟨by omega,by omega⟩,bp.nil⟩⟩) (by simp)) ?_;dsimp only;congr 2;congr 1;unfold gj;simp only[ak];by_cases h:n<0
 ·simp[h];omega
 ·simp[h];omega
theorem aa3 {z:Int} {n:Nat} (aZ:a7 z.natAbs<=3000000) (ag:n<=10000000):rH (bf z,(n:Int),())=some (bf (z*2^n),()):=by
 obtain⟨cq,dv,a3⟩:=ip aZ;unfold rH;dsimp only;refine U.eq_iff.1 ?_;refine U.bs (MI aZ) ?_;dsimp only;rw[dh (bc (show(n:Int)>=0 by omega))];refine U.bP (ati cq (by omega) (n:=n) (by omega)) ?_;rintro _ ⟨o,rfl,hQ,mf,x0⟩;rw[kk] at mf;refine U.bs (Hu hQ (by show o.length<=_;omega) mf) (U.au.2 ?_);dsimp only;congr 2;show(if decide (z<0)=true then _ else _)=_;by_cases h:z<0
 ·rw[if_pos (bc h),<-Int.neg_mul];congr 1;omega
 ·rw[if_neg (by simpa using h)];congr 1;omega
theorem ath {z:Int} {n:Nat} (aZ:a7 z.natAbs<=2900000) (ag:n<=10000000) (PV:0<n):rH (bf z,-(n:Int),())=some (bf (z/2^n),()):=by
 obtain⟨cq,dv,a3⟩:=ip (z:=z) (by omega);have ay:=mi n;unfold rH;dsimp only;refine U.eq_iff.1 ?_;refine U.bs (MI (by omega)) ?_;dsimp only;have aC:aY (0- -(n:Int))=(n:Int):=(by rw[cp (by omega) (by omega)];omega);rw[df (a5 (show¬(-(n:Int)>=0) by omega)),aC];refine U.bP (aa4 cq (by omega) (n:=n) (by omega)) ?_;rintro _ ⟨o,rfl,hQ,mf,x0⟩;rw[kk] at mf|-;dsimp only;refine U.bs (Hu hQ (by omega) mf) ?_;dsimp only;have DH:(bf z).1=decide (z<0):=rfl;rw[DH];have iP:0<=(z.natAbs:Int)/2^n:=Int.ediv_nonneg (by omega) (by omega);have pK:(z.natAbs:Int)/2^n<=z.natAbs:=Int.ediv_le_self _ (by omega);have R:=Zf (m:=z.natAbs) ay (by omega);refine U.bs (y:=((false,([],())),bf (z/2^n),())) ?_ (U.au.2 rfl);by_cases h:z<0
 ·rw[bc h];rw[show-(z.natAbs:Int)=z by omega] at R;by_cases ae:(z.natAbs:Int) %2^n=0
  ·rw[a5 (show¬((z.natAbs:Int) %2^n≠0) from fun g=>g ae)];refine aP rfl ?_;dsimp only[cond_false];rw[if_pos ae] at R;rw[if_pos rfl,R]
  ·rw[bc (show(z.natAbs:Int) %2^n≠0 from ae)];refine aP rfl ?_;dsimp only[cond_true];rw[if_neg ae] at R;refine aP (Sr (by decide) (by decide)) ?_;dsimp only;have aa:a7 (-((z.natAbs:Int)/2^n)).natAbs<=3000000:=by
    rw[eo];have:=eo.1 aZ;have aI:=aab 2900000 3000000 (by decide);omega
   rw[if_pos rfl];refine aP (atj aa (by decide)) ?_;rw[R];dsimp only;congr 4;omega
 ·rw[a5 h];refine aP rfl ?_;dsimp only[cond_false];rw[if_neg (by simp),show(z.natAbs:Int)=z by omega]
theorem agJ {a b k:Nat} (J:a7 a<=k) (R:a7 b<=k):a7 (a+b)<=k+1:=by rw[eo,mC];have:=eo.1 J;have:=eo.1 R;omega
theorem aaR {z:Int} {n:Nat} (aZ:a7 z.natAbs<=3000000) (ag:n<=10000000):E1 (bf z,(n:Int),())=some (decide ((z.natAbs:Int) %2^n≠0),()):=by obtain⟨cq,dv,a3⟩:=ip aZ;unfold E1;dsimp only;refine U.eq_iff.1 ?_;refine U.bs (Dx cq dv (by omega)) ?_;dsimp only;refine U.bP (aa4 cq (by omega) (n:=n) (by omega)) ?_;rintro _ ⟨o,rfl,hQ,mf,x0⟩;rw[kk];exact U.au.2 rfl
theorem as4 {z:Int} (aU:0<=z) (J:z<9223372036854775808):JX (bf z,())=some (z,true,()):=by
 have aa:a7 z.natAbs<=64:=eo.2 (by omega);obtain⟨cq,dv,a3⟩:=ip (z:=z) (by omega);have ah:(bf z).2.1.length<=2:=rJ (by omega);unfold JX;dsimp only;refine U.eq_iff.1 ?_;refine U.bs (MI (by omega)) ?_;dsimp only;rw[df (a5 (show¬(aW (bf z).2.1>2) by simp only[bQ];omega))];refine U.bP (P:=fun r=>r=(z,bf z,())) ?_ ?_
 ·have hv:=kk z;refine U.steps (bf z).2.1.length (fun i s=>s=(ak ((bf z).2.1.take i),(i:Int),bf z,())) rfl ?_ ?_
  ·rintro i _ hi rfl;have ab:=cq.get hi;dsimp only;rw[dh (bc (show(i:Int)<aW (bf z).2.1 by simp only[bQ];omega)),dO hi,Option.bind_some];have J:=e6 (cq.take i);have R:=hS (cq.take i);rw[List.length_take,Nat.min_eq_left (by omega),ud] at R;have aC:aY (32*(i:Int))=((32*i:Nat):Int):=(by rw[cp (by omega) (by omega)];simp);have aa:(2:Int)^(32*i)<=4294967296:=by
    rcases(show i=0\/i=1 by omega) with rfl|rfl<;>decide
   have ay:=mi (32*i);have ao:(bf z).2.1[i]*2^(32*i)<4294967296*4294967296:=(by have:=nf aa ab.1;omega);have jw:0<=(bf z).2.1[i]*2^(32*i):=qd ab.1 (fu ay);rw[aC,dT (x:=(bf z).2.1[i]) (by omega) (by omega),p2 (by omega) (by omega),br,d4,yF jw (by omega),o5 (32*i) J R jw (by omega) (by omega) (Int.mul_emod_left _ _),cY (by omega)];refine U.au.2 ?_;show(_,_,bf z,())=(_,_,bf z,());rw[jE hi,ud,kK (2^(32*i))]
  ·rintro _ rfl;dsimp only;rw[df (a5 (show¬(((bf z).2.1.length:Int)<aW (bf z).2.1) by simp only[bQ];omega)),List.take_of_length_le (Nat.le_refl _),hv];refine U.au.2 ?_;show(((z.natAbs:Nat):Int),bf z,())=_;rw[show((z.natAbs:Nat):Int)=z by omega]
 ·rintro _ rfl;have ag:(bf z).1=false:=a5 (by omega);dsimp only;rw[ag,cond_false,df (a5 (show¬(z>9223372036854775807) by omega)),cp (by omega) (by omega)];exact U.au.2 rfl
theorem abj {z k:Int} (aZ:a7 z.natAbs<=1900000) (J:-1048576<=k) (R:k<=1048576):uK (bf z,k,())=some (bf (su z k),0,()):=by
 rcases kJ k 0 with g|g
 ·obtain⟨n,ag⟩:∃n:Nat,k=-(n:Int):=⟨(-k).toNat,by omega⟩;subst ag;rw[atN aZ (by omega) (by omega),DD]
 ·obtain⟨n,ag⟩:∃n:Nat,k=(n:Int):=⟨k.toNat,by omega⟩;subst ag;rw[atO aZ (by omega),v7]
theorem Sx {z k:Int} (aZ:a7 z.natAbs<=2900000) (J:-10000000<=k) (R:k<=10000000):rH (bf z,k,())=some (bf (su z k),()):=by
 rcases kJ k 0 with g|g
 ·obtain⟨n,ag⟩:∃n:Nat,k=-(n:Int):=⟨(-k).toNat,by omega⟩;subst ag;rw[ath aZ (by omega) (by omega),DD]
 ·obtain⟨n,ag⟩:∃n:Nat,k=(n:Int):=⟨k.toNat,by omega⟩;subst ag;rw[aa3 (by omega) (by omega),v7]
def dH (v:Int):Int:=if v=0 then 0 else i7 v
theorem Rr:b6 0=0:=rfl
theorem ln (v:Int):ck (some v)=(false,bf (b6 v),dH v,()):=by
 by_cases h:v=0
 ·subst h;rfl
 ·rw[VG h,dH,if_neg h]
theorem pV {v:Int} (h:iT v):a7 (b6 v).natAbs<=131072:=by
 by_cases aU:v=0
 ·subst aU;exact h
 ·rw[apz aU];unfold iT at h;omega
theorem pU {v:Int} (h:iT v):-65536<=dH v/\dH v<=65536:=by
 unfold dH;split
 ·omega
 ·rename_i aU;have:=A9 (n:=v.natAbs) (by omega);unfold iT at h;unfold i7;omega
theorem Q7 {v:Int} (h:iT v):ho (b6 v) (dH v)=some v:=by
 by_cases aU:v=0
 ·subst aU;rfl
 ·rw[dH,if_neg aU,aoM h]
theorem apA {v:Int} {e:Int} (h:v=0\/e<=i7 v) (aE:-65536<=e):b6 v*2^(dH v-e).toNat*2^(e+65536).toNat=v:=by
 by_cases aU:v=0
 ·subst aU;rw[Rr];simp
 ·have J:=Dj v;have R:=h.resolve_left aU;rw[dH,if_neg aU,ug,<-qf];have:(i7 v-e).toNat+(e+65536).toNat=cF v.natAbs:=(by unfold i7 at*;omega);rw[this,J]
theorem VF {m e:Int} (ao:m≠0) (h:¬(e+cF m.natAbs< -65536\/65536<e+a7 m.natAbs)):ck (ho m e)=(false,bf (m/2^cF m.natAbs),e+cF m.natAbs,())/\(ho m e).isSome=true:=by
 obtain⟨v,hv⟩:∃v,v=su m (e+65536):=⟨_,rfl⟩;have va:ho m e=some v:=(by unfold ho;rw[if_neg ao,if_neg h,hv]);rw[va];refine⟨?_,rfl⟩;obtain⟨a,aG⟩:=Ba (n:=m.natAbs) (by omega);have FQ:=(As (n:=m.natAbs) (k:=cF m.natAbs) (by omega)).1 (bS _);have alG:m/2^cF m.natAbs*2^cF m.natAbs=m:=Ov FQ;have PS:(m/2^cF m.natAbs).natAbs=2*a+1:=by
  rw[G4 FQ]
  conv=>lhs;lhs;rw[aG]
  exact Nat.mul_div_cancel _ (mD _)
 generalize bd:cF m.natAbs=T at*;generalize bC:m/2^T=M at*;have lA:v=M*2^(e+T+65536).toNat:=by
  rw[hv,<-alG];rcases Int.le_total 0 (e+65536) with g|g
  ·obtain⟨k,ac⟩:∃k:Nat,e+65536=k:=⟨(e+65536).toNat,by omega⟩;rw[ac,v7,ug,<-qf];congr 2;omega
  ·obtain⟨k,ac⟩:∃k:Nat,e+65536=-(k:Int):=⟨(-(e+65536)).toNat,by omega⟩;obtain⟨j,al⟩:∃j:Nat,T=j+k:=⟨T-k,by omega⟩;rw[ac,DD,al,qf,<-ug,Int.mul_ediv_cancel _ (by have:=mi k;omega)];congr 2;omega
 obtain⟨K,cn⟩:∃K:Nat,e+T+65536=K:=⟨(e+T+65536).toNat,by omega⟩;rw[cn,d4] at lA;have Xz:v.natAbs=(2*a+1)*2^K:=(by rw[lA,vG,PS]);have Xy:cF v.natAbs=K:=HM Xz;have ts:v≠0:=(by intro aU;rw[aU] at Xz;have J:=Nat.mul_pos (show 0<2*a+1 by omega) (mD K);have R:(0:Int).natAbs=0:=rfl;omega);rw[VG ts];have aC:b6 v=M:=(by unfold b6;rw[Xy,lA,Int.mul_ediv_cancel _ (by have:=mi K;omega)]);have aV:i7 v=e+T:=(by unfold i7;rw[Xy];omega);rw[aC,aV]
theorem aaQ {m:Int} {n:Nat} (ao:a7 m.natAbs<=1900000) (ag:n<=1048576):EE (bf m,(n:Int),())=some (bf (m/2^n),()):=by
 unfold EE;dsimp only;refine U.eq_iff.1 ?_;refine U.bP (P:=fun r=>r=((n:Int),bf m,(false,([],())),())) ?_ ?_
 ·refine U.steps 0 (fun i s=>s=((n:Int),bf m,(false,([],())),())) rfl (fun i s hi=>by omega) ?_;rintro _ rfl;dsimp only;rw[df (a5 (show¬((n:Int)>1048576) by omega))];exact U.au.2 rfl
 ·rintro _ rfl;dsimp only;rw[cp (by omega) (by omega),Int.zero_sub];refine U.bs (abj ao (by omega) (by omega)) (U.au.2 ?_);rw[DD]
theorem C3 {m k:Int} (ao:a7 m.natAbs<=1900000) (J:0<=k) (R:k<=1048576):rE (bf m,k,())=some (bf (m*2^k.toNat),()):=by unfold rE;refine aP (abj ao (by omega) R) ?_;obtain⟨n,rfl⟩:=gn J;show some (bf (su m (n:Int)),())=_;rw[v7];rfl
theorem Zi {m e:Int} (ao:a7 m.natAbs<=900000) (J:-1000000000000<=e) (R:e<=1000000000000):rF ((false,bf m,e,()),())=some (ck (ho m e),(ho m e).isSome,()):=by
 obtain⟨cq,dv,a3⟩:=ip (z:=m) (by omega);unfold rF;dsimp only;rw[cond_false];have ag:=aps (b:=bf m) cq (by omega);rw[q6] at ag;refine aP ag ?_;refine aP (v9 (jY (by omega))) ?_;dsimp only;rw[e5,cB];split
 ·rename_i h;have:m=0:=by
   unfold fY at h;split at h
   ·assumption
   ·split at h<;>omega
  subst this;rfl
 rename_i h;have jw:m≠0:=(by intro e;subst e;exact h rfl);have af:=A9 (n:=m.natAbs) (by omega);refine aP (abQ (jY (by omega)) jw) ?_;dsimp only;by_cases aa:e+cF m.natAbs< -65536\/65536<e+a7 m.natAbs
 ·have va:ho m e=none:=(by unfold ho;rw[if_neg jw,if_pos aa]);rw[va];refine aP (y:=.inr (ck none,false,())) ?_ rfl;refine aP (y:=(true,(false,((false,([],())),((0:Int),()))),bf m,())) ?_ rfl;refine aP (y3 (jY (by omega))) ?_;dsimp only;rw[cp (x:=65536-(a7 m.natAbs:Int)) (by omega) (by omega),cp (by omega) (by omega)];by_cases g:e>65536-(a7 m.natAbs:Int)
  ·rw[bc g];rfl
  ·rw[a5 g,bc (show e< -65536-(cF m.natAbs:Int) by omega)];rfl
 ·obtain⟨ae,aI⟩:=VF jw aa;rw[ae,aI];refine aP (y:=.inl ((false,((false,([],())),((0:Int),()))),bf m,())) ?_ ?_
  ·refine aP (y:=(false,(false,((false,([],())),((0:Int),()))),bf m,())) ?_ rfl;refine aP (y3 (jY (by omega))) ?_;dsimp only;rw[cp (x:=65536-(a7 m.natAbs:Int)) (by omega) (by omega),cp (by omega) (by omega)];rw[a5 (show¬(e>65536-(a7 m.natAbs:Int)) by omega),a5 (show¬(e< -65536-(cF m.natAbs:Int)) by omega)];rfl
  ·refine aP (aaQ (by omega) (by omega)) ?_;dsimp only;rw[cp (by omega) (by omega)]
theorem Di {d:Option Int} (h:gU d):rF (ck d,())=some (ck d,d.isSome,()):=by
 cases d with
 |none=>rfl
 |some v=>
  have hr:=h v rfl;have J:=pV hr;have R:=pU hr;rw[ln,Zi (by omega) (by omega) (by omega),Q7 hr,ln]
theorem Q3 {m e:Int} (ao:a7 m.natAbs<=900000) (J:-1000000000000<=e) (R:e<=1000000000000):BX (bf m,e,())=some (ck (ho m e),()):=by unfold BX;exact aP (Zi ao J R) rfl
theorem Ow {d:Option Int} (h:gU d):BY (ck d,())=some (ck d,()):=by unfold BY;exact aP (Di h) rfl
def v5 (d:Option Int):Int:=fY (d.getD 0)
theorem atM (v:Int):fY (b6 v)=fY v:=by
 unfold fY;have:=G9 (v:=v);by_cases h:v=0
 ·subst h;rfl
 ·have:=sg h;rw[if_neg this,if_neg h];split<;>split<;>first|rfl|omega
theorem rI {d:Option Int} (h:gU d):wX (ck d,())=some (v5 d,()):=by
 unfold wX;refine aP (Di h) ?_;cases d with
 |none=>exact aP (v9 (z:=0) (jY (by decide))) rfl
 |some v=>
  have J:=pV (h v rfl);rw[ln];refine aP (v9 (jY (by omega))) ?_;show some (fY (b6 v),())=_;rw[atM];rfl
theorem auC {a b:Option Int} (aG:gU a) (aa:gU b):Jf (ck a,ck b,())=some (ck a,ck b,a.isSome&&b.isSome,()):=by unfold Jf;refine aP (Di aG) (aP (Di aa) ?_);cases a<;>rfl
def vE (a b:Option Int):Option Int:=a.bind fun x=>b.bind fun y=>ho (b6 x*b6 y) (dH x+dH y)
def G6 (a:Option Int):Option Int:=a.map fun x=>-x
def Nx (a:Option Int):Option Int:=a.map fun x=>(x.natAbs:Int)
theorem Y1 (a b:Option Int):gU (vE a b):=by
 intro v hv;unfold vE at hv;cases a with
 |none=>cases hv
 |some x=>cases b with
  |none=>cases hv
  |some y=>exact Q9 _ _ v hv
theorem apb {a:Option Int} (h:gU a):gU (G6 a):=by
 intro v hv;cases a with
 |none=>cases hv
 |some x=>cases hv;have:=h x rfl;unfold iT at*;rw[Int.natAbs_neg];exact this
theorem aga {a:Option Int} (h:gU a):gU (Nx a):=by
 intro v hv;cases a with
 |none=>cases hv
 |some x=>cases hv;have:=h x rfl;unfold iT at*;rw[yG];exact this
theorem aia {a b:Option Int} (aG:gU a) (aa:gU b):I8 (ck a,ck b,())=some (ck (vE a b),()):=by
 unfold I8;refine aP (auC aG aa) ?_;cases a with
 |none=>rfl
 |some x=>
  cases b with
  |none=>rfl
  |some y=>
   have J:=pV (aG x rfl);have R:=pV (aa y rfl);have ae:=pU (aG x rfl);have aI:=pU (aa y rfl);rw[ln,ln];refine aP (Y2 (by omega) (by omega)) ?_;dsimp only;rw[cp (by omega) (by omega)];refine aP (Q3 ?_ (by omega) (by omega)) rfl;rw[Int.natAbs_mul];have:=Es J R;omega
theorem Zl (v:Int):b6 (-v)=-b6 v:=by have J:=Dj v;have R:=Dj (-v);rw[Int.natAbs_neg] at R;have ay:=mi (cF v.natAbs);have ae:b6 (-v)*2^cF v.natAbs=-b6 v*2^cF v.natAbs:=(by rw[R,Int.neg_mul,J]);exact Int.eq_of_mul_eq_mul_right (by omega) ae
theorem VM (v:Int):dH (-v)=dH v:=by
 unfold dH i7;rw[Int.natAbs_neg];by_cases h:v=0
 ·subst h;rfl
 ·rw[if_neg h,if_neg (by omega)]
theorem apy (v:Int):b6 (v.natAbs:Int)=((b6 v).natAbs:Int):=by
 have h:=G9 (v:=v);rcases kJ v 0 with g|g
 ·rw[show(v.natAbs:Int)=-v by omega,Zl];have:=h.2 g;omega
 ·rw[show(v.natAbs:Int)=v by omega];have:=mt h.1 (by omega);omega
theorem ai3 (v:Int):dH (v.natAbs:Int)=dH v:=by
 rcases kJ v 0 with g|g
 ·rw[show(v.natAbs:Int)=-v by omega,VM]
 ·rw[show(v.natAbs:Int)=v by omega]
theorem aib {a:Option Int} (aG:gU a):I9 (ck a,())=some (ck (G6 a),()):=by
 unfold I9;refine aP (Di aG) ?_;cases a with
 |none=>rfl
 |some x=>
  have J:=pV (aG x rfl);rw[ln];refine aP (aP (Zg (jY (by omega))) rfl) ?_;show some ((false,bf (-b6 x),dH x,()),())=some (ck (some (-x)),());rw[ln,Zl,VM]
def sy (v e:Int):Int:=b6 v*2^(dH v-e).toNat
theorem HQ {v e:Int} (h:v=0\/e<=i7 v) (aE:-65536<=e):sy v e*2^(e+65536).toNat=v:=apA h aE
theorem abS {v e:Int} (h:v=0\/e<=i7 v) (aE:-65536<=e) (hr:iT v):a7 (sy v e).natAbs<=131072:=by
 have J:=HQ h aE;have R:(sy v e).natAbs<=v.natAbs:=by
  conv=>rhs;rw[<-J,vG]
  exact Nat.le_mul_of_pos_right _ (mD _)
 exact eu (pq R) hr
theorem anC {v e:Int} (h:v=0\/e<=i7 v) (aE:-65536<=e) (awu:e<=65536) (hr:iT v) (aU:e<=dH v):rE (bf (b6 v),dH v-e,())=some (bf (sy v e),()):=by have J:=pV hr;have R:=pU hr;exact C3 (by omega) (by omega) (by omega)
theorem zI {x e:Int} (h:e<=dH x):x=0\/e<=i7 x:=by
 by_cases aU:x=0
 ·exact .inl aU
 ·rw[dH,if_neg aU] at h;exact .inr h
def tx (n:Int):Option Int:=ho n 0
def gQ:List (Option Int)->Int
 |[]=>0
 |d::l=>d.getD 0+gQ l
def hK:List (Option Int)->Bool
 |[]=>true
 |d::l=>d.isSome&&hK l
def jD (l:List (Option Int)):Option Int:=if hK l=true then uF (gQ l) else none
theorem abu (l:List (Option Int)):gU (jD l):=by
 intro v hv;unfold jD at hv;split at hv
 ·exact ahm _ v hv
 ·cases hv
theorem MZ (a b:List (Option Int)):gQ (a++b)=gQ a+gQ b:=by
 induction a with
 |nil=>simp[gQ]
 |cons x a aT=>simp only[mz,gQ,aT];omega
theorem IG (a b:List (Option Int)):hK (a++b)=(hK a&&hK b):=by
 induction a with
 |nil=>simp[hK]
 |cons x a aT=>simp only[mz,hK,aT,Bool.and_assoc]
theorem S1 {l:List (Option Int)} {i:Nat} (h:i<l.length):gQ (l.take (i+1))=gQ (l.take i)+(l[i]).getD 0:=by rw[nR,ct h];show gQ (l.take i++[l[i]])=_;rw[MZ];simp[gQ]
theorem T7 {l:List (Option Int)} {i:Nat} (h:i<l.length):hK (l.take (i+1))=(hK (l.take i)&&(l[i]).isSome):=by rw[nR,ct h];show hK (l.take i++[l[i]])=_;rw[IG];simp[hK]
theorem T6 {l:List (Option Int)} (h:hK l=true) {i:Nat} (hi:i<l.length):∃v,l[i]=some v:=by
 induction l generalizing i with
 |nil=>simp at hi
 |cons x l aT=>
  simp only[hK,bM] at h;cases i with
  |zero=>exact Option.isSome_iff_exists.1 h.1
  |succ i=>exact aT h.2 (by simpa using hi)
theorem T5 {l:List (Option Int)} {i:Nat} (h:i<l.length) (ag:l[i]=none):hK l=false:=by
 cases hs:hK l with
 |false=>rfl
 |true=>obtain⟨v,hv⟩:=T6 hs h;rw[hv] at ag;cases ag
theorem aic {l:List (Option Int)} (ah:∀d∈l,gU d) (ag:l.length<=1000000):Je (l.map ck,())=some (ck (jD l),()):=by
 unfold Je;refine U.eq_iff.1 ?_;dsimp only;refine U.bP (P:=fun q=>match q with
  |.inl r=>∃e,r=(e,(false,((false,([],())),((0:Int),()))),l.map ck,())/\hK l=true/\-65536<=e/\e<=0/\(∀i v,(h:i<l.length)->l[i]=some v->e<=dH v)
  |.inr r=>r=(ck (jD l),())) ?_ ?_
 ·refine U.steps l.length (fun i s=>∃e,s=(e,(i:Int),(false,((false,([],())),((0:Int),()))),(l.take i).map ck,())/\hK (l.take i)=true/\-65536<=e/\e<=0/\(∀k v,(h:k<l.length)->k<i->l[k]=some v->e<=dH v)) ⟨0,rfl,rfl,by decide,by decide,fun k v J R=>by omega⟩ ?_ ?_
  ·rintro i _ hi ⟨e,rfl,J,R,ae,aI⟩;have aN:=ah l[i] (List.getElem_mem hi);dsimp only;rw[dh (bc (show(i:Int)<aW (l.map ck) by simp only[bQ,List.length_map];omega))];refine U.bs (y:=ck l[i]) ?_ (U.bs (Di aN) ?_)
   ·rw[dO (by simpa using hi),List.getElem_map]
   dsimp only;cases hc:l[i] with
   |none=>
    refine U.bs rfl (U.au.2 ?_);show(ck none,())=_;rw[jD,if_neg];rw[T5 hi hc];simp
   |some v=>
    have hr:iT v:=aN v hc;have ab:=pU hr;show U ((dA _).bind _) _;rw[fD (by simp;omega)];refine U.au.2 ⟨if dH v<e then dH v else e,?_,?_,by split<;>omega,by split<;>omega,?_⟩
    ·rw[cY (by omega),nR,ct hi,hc];simp only[Option.toList_some,jS,eY,List.map_nil,ln]
    ·rw[T7 hi,J,hc];rfl
    ·intro k w bu bE cl;rcases ch k i with g|g
     ·have:=aI k w bu g cl;split<;>omega
     ·obtain rfl:k=i:=(by omega);rw[hc] at cl;cases cl;split<;>omega
  ·rintro _ ⟨e,rfl,J,R,ae,aI⟩;dsimp only;rw[df (a5 (show¬((l.length:Int)<aW (l.map ck)) by simp only[bQ,List.length_map];omega))];rw[List.take_of_length_le (Nat.le_refl _)] at J|-;exact U.au.2 ⟨e,rfl,J,R,ae,fun i v hi hv=>aI i v hi hi hv⟩
 ·rintro(q|q) ai
  ·obtain⟨e,rfl,J,R,ae,aI⟩:=ai;dsimp only;refine U.bP (P:=fun r=>∃t,r=((false,((false,([],())),((0:Int),()))),bf t,())/\t*2^(e+65536).toNat=gQ l/\a7 t.natAbs<=200000) ?_ ?_
   ·have K1:∀t:Int,t.natAbs<=l.length*2^131072->a7 t.natAbs<=200000:=fun t af=>by
     refine eu (pq af) ?_;have:a7 l.length<=20:=eo.2 (by omega);have bI:a7 (2^131072)<=131073:=eo.2 (RX 131072 131073 (by decide));have:=Es this bI;omega
    refine U.steps l.length (fun i s=>∃t,s=((i:Int),(false,((false,([],())),((0:Int),()))),l.map ck,bf t,())/\t*2^(e+65536).toNat=gQ (l.take i)/\t.natAbs<=i*2^131072) ⟨0,rfl,by rw[Int.zero_mul];simp[gQ],(eL _:(0:Nat)<=_)⟩ ?_ ?_
    ·rintro i _ hi ⟨t,rfl,bT,bz⟩;obtain⟨v,hv⟩:=T6 J hi;have hr:iT v:=ah l[i] (List.getElem_mem hi) v hv;have aE:=aI i v hi hv;have aQ:=abS (zI aE) R hr;have ab:=pU hr;have Qb:=K1 t (Nat.le_trans bz (Nat.mul_le_mul_right _ (by omega)));dsimp only;rw[dh (bc (show(i:Int)<aW (l.map ck) by simp only[bQ,List.length_map];omega)),qU (by simpa using hi),List.getElem_map,hv,ln];dsimp only;rw[cp (by omega) (by omega)];refine U.bs (anC (zI aE) R (by omega) hr aE) (U.bs (T2 (by omega) (by omega)) (U.au.2 ⟨t+sy v e,by rw[cY (by omega)],?_,?_⟩))
     ·rw[Int.add_mul,bT,HQ (zI aE) R,S1 hi,hv];rfl
     ·have eO:=eo.1 aQ;have s8:=Int.natAbs_add_le t (sy v e);exact eu s8 (Y3 bz eO)
    ·rintro _ ⟨t,rfl,bT,bz⟩;dsimp only;rw[df (a5 (show¬((l.length:Int)<aW (l.map ck)) by simp only[bQ,List.length_map];omega))];rw[List.take_of_length_le (Nat.le_refl _)] at bT;exact U.au.2 ⟨t,rfl,bT,K1 t bz⟩
   ·rintro _ ⟨t,rfl,bT,bz⟩;refine U.bs (Q3 (by omega) (by omega) (by omega)) (U.au.2 ?_);show(ck (ho t e),())=_;rw[Ra R bT.symm,jD,if_pos J]
  ·have ai:q=_:=ai;rw[ai];exact U.au.2 rfl
theorem ss {z:Int}:(fY z==0)=decide (z=0):=by
 rw[e5,decide_eq_decide];unfold fY;constructor
 ·intro h;split at h
  ·assumption
  ·split at h<;>omega
 ·intro h;rw[if_pos h]
theorem Sm {m:Int} {n:Nat} (ao:a7 m.natAbs<=1900000) (ag:n<=1048576):Cd (bf m,(n:Int),())=some (bf (m/2^n),()):=by
 unfold Cd;dsimp only;refine U.eq_iff.1 ?_;refine U.bP (P:=fun r=>r=((n:Int),bf m,(false,([],())),())) ?_ ?_
 ·refine U.steps 0 (fun i s=>s=((n:Int),bf m,(false,([],())),())) rfl (fun i s hi=>by omega) ?_;rintro _ rfl;dsimp only;rw[df (a5 (show¬((n:Int)>1048576) by omega))];exact U.au.2 rfl
 ·rintro _ rfl;dsimp only;rw[cp (by omega) (by omega),Int.zero_sub];refine U.bs (Sx (by omega) (by omega) (by omega)) (U.au.2 ?_);rw[DD]
theorem aaS {b:sG} {m e:Int} (Xa:bp b.2.1) (ah:b.2.1.length<=100000000) (hv:gj b=m) (ao:a7 m.natAbs<=900000) (J:-1000000000000<=e) (R:e<=1000000000000):uM (b,e,())=some (ck (ho m e),()):=by
 unfold uM;dsimp only;have ag:=aaU Xa ah;rw[hv] at ag;refine aP ag ?_;dsimp only;rw[vt,cB];split
 ·rename_i h;have:=Fq.1 h;subst this;rfl
 rename_i h;have jw:m≠0:=fun e=>h (Fq.2 e);have af:=A9 (n:=m.natAbs) (by omega);have xl:=uD (m:=m.natAbs) (by omega);rw[cB];split
 ·rename_i g;have va:ho m e=none:=(by unfold ho;rw[if_neg jw,if_pos (by omega)]);rw[va];rfl
 rename_i g;refine aP (aa7 (by omega) jw) (aP (Sj (by omega)) (aP (Sm (m:=(m.natAbs:Int)) (by rw[Int.natAbs_natCast];omega) (by omega)) ?_));have FQ:=(As (n:=m.natAbs) (k:=cF m.natAbs) (by omega)).1 (Nat.le_refl _);have n6:(m.natAbs:Int)/2^cF m.natAbs=(((m/2^cF m.natAbs).natAbs:Nat):Int):=(by rw[G4 FQ,<-oo,<-Int.natCast_ediv]);have bC:a7 ((m/2^cF m.natAbs).natAbs)=a7 m.natAbs-cF m.natAbs:=(by rw[G4 FQ,Et]);rw[n6];dsimp only;rw[cp (x:=e+(cF m.natAbs:Int)) (by omega) (by omega)];by_cases aa:e+cF m.natAbs< -65536\/65536<e+a7 m.natAbs
 ·have va:ho m e=none:=(by unfold ho;rw[if_neg jw,if_pos aa]);rw[va];refine aP (y:=.inr (ck none,())) ?_ rfl;refine aP (y:=(true,(false,((false,([],())),((0:Int),()))),bf ((m/2^cF m.natAbs).natAbs:Int),())) ?_ rfl;by_cases bz:e+(cF m.natAbs:Int)< -65536
  ·rw[bc bz];rfl
  ·rw[a5 bz];refine aP (Sk (by rw[Int.natAbs_natCast];omega)) ?_;rw[Int.natAbs_natCast,bC];dsimp only;rw[cp (by omega) (by omega),bc (show e+(cF m.natAbs:Int)+((a7 m.natAbs-cF m.natAbs:Nat):Int)>65536 by omega)]
 ·obtain⟨ae,aI⟩:=VF jw aa;rw[ae];refine aP (y:=.inl ((false,((false,([],())),((0:Int),()))),bf ((m/2^cF m.natAbs).natAbs:Int),())) ?_ ?_
  ·refine aP (y:=(false,(false,((false,([],())),((0:Int),()))),bf ((m/2^cF m.natAbs).natAbs:Int),())) ?_ rfl;rw[a5 (show¬(e+(cF m.natAbs:Int)< -65536) by omega)];refine aP (Sk (by rw[Int.natAbs_natCast];omega)) ?_;rw[Int.natAbs_natCast,bC];dsimp only;rw[cp (by omega) (by omega),a5 (show¬(e+(cF m.natAbs:Int)+((a7 m.natAbs-cF m.natAbs:Nat):Int)>65536) by omega)]
  ·dsimp only;congr 3;have hs:b.1=decide (m/2^cF m.natAbs<0):=by
    have aX:(m/2^cF m.natAbs<0)↔m<0:=G9 (v:=m);have bI:b.1=decide (m<0):=by
     have aU:=e6 Xa;unfold gj at hv;cases hc:b.1 with
     |true=>rw[hc,if_pos rfl] at hv;exact(bc (by omega)).symm
     |false=>rw[hc,if_neg (by simp)] at hv;exact(a5 (by omega)).symm
    rw[bI,decide_eq_decide];exact aX.symm
   rw[hs];rfl
theorem MH {m e:Int} (ao:a7 m.natAbs<=900000) (J:-1000000000000<=e) (R:e<=1000000000000):uM (bf m,e,())=some (ck (ho m e),()):=
 aaS (nZ m) (by have:=(ip (z:=m) (by omega)).2.2;omega) (q6 m) ao J R
theorem Sl {d:Option Int} (h:gU d):Cc (ck d,())=some (ck d,()):=by
 cases d with
 |none=>rfl
 |some v=>
  have hr:=h v rfl;have J:=pV hr;have R:=pU hr;unfold Cc;rw[ln];refine aP (MH (e:=dH v) (by omega) (by omega) (by omega)) ?_;rw[Q7 hr,ln]
theorem Kx (d:Option Int):(ck d).1=!d.isSome:=by
 cases d with
 |none=>rfl
 |some v=>rw[ln];rfl
theorem asR {a:Option Int} (aG:gU a):J3 (ck a,())=some (ck (Nx a),()):=by
 unfold J3;refine aP (Sl aG) ?_;cases a with
 |none=>rfl
 |some x=>
  have hr:=aG x rfl;have J:=pV hr;have R:=pU hr;rw[ln];refine aP (Sj (by omega)) (aP (MH (e:=dH x) (by rw[yG];omega) (by omega) (by omega)) ?_);have ae:iT (x.natAbs:Int):=(by unfold iT at*;rw[yG];exact hr);rw[<-apy,<-ai3,Q7 ae];rfl
theorem abT (v:Int):sy v (dH v)=b6 v:=by unfold sy;simp
theorem aaE {n:Int} (J:-9223372036854775808<=n) (R:n<=9223372036854775807):E4 (n,())=some (ck (tx n),()):=by unfold E4;have aa:a7 n.natAbs<=64:=eo.2 (by omega);exact aP (Sr J R) (aP (MH (by omega) (by decide) (by decide)) rfl)
theorem asS {l:List (Option Int)} (ah:∀d∈l,gU d) (ag:l.length<=1000000):J5 (l.map ck,())=some (ck (jD l),()):=by
 unfold J5;refine U.eq_iff.1 ?_;dsimp only;have K1:∀t:Int,t.natAbs<=l.length*2^131072->a7 t.natAbs<=200000:=fun t af=>(by refine Nat.le_trans (pq af) ?_;have:a7 l.length<=20:=eo.2 (by omega);have bI:a7 (2^131072)<=131073:=eo.2 (RX 131072 131073 (by decide));have:=Es this bI;omega);have tq:∀(t e:Int) (i:Nat),-65536<=e->i<=l.length->(gQ (l.take i)).natAbs<=i*2^131072->t*2^(e+65536).toNat=gQ (l.take i)->a7 t.natAbs<=200000:=fun t e i aE hi J R=>(by refine K1 t (Nat.le_trans ?_ (Nat.mul_le_mul_right _ hi));refine Nat.le_trans ?_ J;rw[<-R,vG];exact Nat.le_mul_of_pos_right _ (Nat.two_pow_pos _));refine U.bP (P:=fun q=>match q with
  |.inl r=>∃e t,r=(e,(false,((false,([],())),((0:Int),()))),bf t,())/\hK l=true/\-65536<=e/\e<=65536/\t*2^(e+65536).toNat=gQ l/\a7 t.natAbs<=200000
  |.inr r=>r=(ck (jD l),())) ?_ ?_
 ·refine U.steps l.length (fun i s=>∃e t,s=(e,(i:Int),(false,((false,([],())),((0:Int),()))),bf t,())/\hK (l.take i)=true/\-65536<=e/\e<=65536/\t*2^(e+65536).toNat=gQ (l.take i)/\(gQ (l.take i)).natAbs<=i*2^131072) ⟨0,0,rfl,rfl,by decide,by decide,by rw[Int.zero_mul];simp[gQ],(eL _:(0:Nat)<=_)⟩ ?_ ?_
  ·rintro i _ hi ⟨e,t,rfl,J,R,ae,aI,aX⟩;have aN:=ah l[i] (List.getElem_mem hi);have Qb:=tq t e i R (by omega) aX aI;dsimp only;rw[dh (bc (show(i:Int)<aW (l.map ck) by simp only[bQ,List.length_map];omega))];refine U.bP (P:=fun q=>match q with
    |.inl r=>∃v e t,l[i]=some v/\r=(e,(false,((false,([],())),((0:Int),()))),bf t,())/\-65536<=e/\e<=65536/\t*2^(e+65536).toNat=gQ (l.take i)+v
    |.inr r=>r=.inr (.inr (ck (jD l),()))) ?_ ?_
   ·refine U.bs (y:=ck l[i]) ?_ (U.bs (Sl aN) ?_)
    ·rw[dO (by simpa using hi),List.getElem_map]
    dsimp only;cases hc:l[i] with
    |none=>
     refine U.bs rfl (U.au.2 ?_);show _=Sum.inr (Sum.inr (ck (jD l),()));rw[jD,if_neg]
     ·rfl
     ·rw[T5 hi hc];simp
    |some v=>
     have hr:iT v:=aN v hc;have ab:=pU hr;have awG:=pV hr;rw[ln];refine U.bs (Hw (by omega)) ?_;dsimp only;rw[ss];by_cases ts:v=0
     ·subst ts;rw[bc (show b6 0=0 from rfl)];exact U.au.2 ⟨0,e,t,rfl,rfl,R,ae,by rw[aI];omega⟩
     rw[a5 (sg ts)];refine U.bs (Hw (by omega)) ?_;dsimp only;rw[ss];by_cases F8:t=0
     ·subst F8;rw[bc rfl];refine U.au.2 ⟨v,dH v,b6 v,rfl,rfl,by omega,by omega,?_⟩;have:=HQ (v:=v) (e:=dH v) (zI (wz _)) (by omega);rw[abT] at this;rw[this,<-aI];simp
     rw[a5 F8];by_cases kW:dH v>=e
     ·rw[bc kW,cp (by omega) (by omega)];refine U.bs (Sx (by omega) (by omega) (by omega)) ?_;have amh:su (b6 v) (dH v-e)=sy v e:=by
       obtain⟨n,ag⟩:∃n:Nat,dH v-e=n:=⟨(dH v-e).toNat,by omega⟩;rw[ag,v7,sy,ag];rfl
      have aQ:=abS (zI kW) R hr;rw[amh];refine U.bs (Mz (by omega) (by omega)) (U.au.2 ⟨v,e,t+sy v e,rfl,rfl,R,ae,?_⟩);rw[Int.add_mul,aI,HQ (zI kW) R]
     ·rw[a5 kW,cp (x:=e-dH v) (by omega) (by omega)];obtain⟨n,ag⟩:∃n:Nat,e-dH v=n:=⟨(e-dH v).toNat,by omega⟩;have ao:t*2^n*2^(dH v+65536).toNat=gQ (l.take i):=by
       rw[<-aI,ug,<-qf];congr 2;omega
      have Xe:=tq (t*2^n) (dH v) i (by omega) (by omega) aX ao;rw[ag];refine U.bs (Sx (by omega) (by omega) (by omega)) ?_;rw[v7];refine U.bs (Mz (by omega) (by omega)) (U.au.2 ⟨v,dH v,t*2^n+b6 v,rfl,rfl,by omega,by omega,?_⟩);have:=HQ (v:=v) (e:=dH v) (zI (wz _)) (by omega);rw[abT] at this;rw[Int.add_mul,ao,this]
   ·rintro(q|q) ai
    ·obtain⟨v,dy,t',hv,rfl,bz,cZ,cU⟩:=ai;have hr:iT v:=aN v hv;refine U.au.2 ⟨dy,t',by rw[cY (by omega)],by rw[T7 hi,J,hv];rfl,bz,cZ,by rw[S1 hi,hv];exact cU,?_⟩;rw[S1 hi,hv];have s8:=Int.natAbs_add_le (gQ (l.take i)) v;have aki:v.natAbs<2^131072:=(eo (k:=131072)).1 hr;show(gQ (l.take i)+v).natAbs<=_;have akf:=Y3 aX aki;exact eu s8 akf
    ·have ai:q=_:=ai;rw[ai];exact U.au.2 rfl
  ·rintro _ ⟨e,t,rfl,J,R,ae,aI,aX⟩;dsimp only;rw[df (a5 (show¬((l.length:Int)<aW (l.map ck)) by simp only[bQ,List.length_map];omega))];have Qb:=tq t e l.length R (Nat.le_refl _) aX aI;rw[List.take_of_length_le (Nat.le_refl _)] at J aI;exact U.au.2 ⟨e,t,rfl,J,R,ae,aI,Qb⟩
 ·rintro(q|q) ai
  ·obtain⟨e,t,rfl,J,R,ae,aI,aX⟩:=ai;refine U.bs (MH (by omega) (by omega) (by omega)) (U.au.2 ?_);show(ck (ho t e),())=_;rw[Ra R aI.symm,jD,if_pos J]
  ·have ai:q=_:=ai;rw[ai];exact U.au.2 rfl
def dD (f:Int):Int:=f/4503599627370496 %2048
def g9 (f:Int):Int:=f %4503599627370496
def eD (f:Int):Prop:=0<=f/\f<18446744073709551616
def gM (f:Int):Option Int:=
 if dD f=2047 then none
 else ho (if f<9223372036854775808 then if dD f=0 then g9 f else g9 f+4503599627370496 else-(if dD f=0 then g9 f else g9 f+4503599627370496)) (if dD f=0 then-1074 else dD f-1075)
theorem vI (f:Int):gU (gM f):=by
 intro v hv;unfold gM at hv;split at hv
 ·cases hv
 ·exact Q9 _ _ v hv
theorem R0 {f:Int} (aF:eD f):BZ (f,())=some (dD f,g9 f,()):=by unfold BZ;dsimp only;have J:=aF.1;have R:=aF.2;rw[yi (by decide) (by decide),Option.bind_some,show(2:Int)^(52:Int).toNat=4503599627370496 from rfl,wN 11 (by omega) (by omega) 2047 (by decide) (by decide),wN 52 (by omega) (by omega) 4503599627370495 (by decide) (by decide),cp (by omega) (by omega)];rfl
theorem UE {f:Int} (aF:eD f):(eg IntKind.u64 f 9223372036854775808 !=0)=decide (9223372036854775808<=f):=by
 obtain⟨J,R⟩:=aF;obtain⟨n,rfl⟩:=gn J;have ae:n<18446744073709551616:=(by omega);have e:(9223372036854775808:Int)=((2^63:Nat):Int):=rfl;rw[e,Ud ae (by decide),ew];rcases ch n (2^63) with g|g
 ·have aZ:n&&&2^63=0:=by
   refine Nat.eq_of_testBit_eq fun i=>?_;rw[Nat.testBit_and,Io,Nat.zero_testBit];by_cases hi:63=i
   ·subst hi;rw[Nat.testBit_lt_two_pow g];rfl
   ·rw[a5 hi,Bool.and_false]
  rw[aZ,bc (show((0:Nat):Int)=0 from rfl),a5 (show¬(((2^63:Nat):Int)<=(n:Int)) by omega)];rfl
 ·have aZ:n&&&2^63≠0:=by
   intro aU;have J:(n&&&2^63).testBit 63=false:=(by rw[aU];exact Nat.zero_testBit 63);rw[Nat.testBit_and,Io] at J;obtain⟨m,rfl⟩:∃m,n=2^63*1+m:=⟨n-2^63,by omega⟩;rw[Nat.testBit_two_pow_mul_add 1 (by omega),if_neg (by omega)] at J;exact absurd J (by decide)
  rw[a5 (show¬(((n&&&2^63:Nat):Int)=0) by omega),bc (show(((2^63:Nat):Int)<=(n:Int)) by omega)];rfl
theorem apd {f:Int} (aF:eD f):Jm (f,())=some (decide (9223372036854775808<=f),()):=by unfold Jm;dsimp only;rw[UE aF]
theorem Qt {f:Int} (aF:eD f):zg (f,())=some (!decide (dD f=2047),()):=by unfold zg;refine aP (R0 aF) ?_;dsimp only;rw[ew]
def LL (f:Int):Int:=if dD f=2047 then if g9 f=0 then 2 else 3 else if dD f=0/\g9 f=0 then 0 else 1
theorem anh {f:Int} (aF:eD f):Jj (f,())=some (LL f,()):=by
 unfold Jj LL;refine aP (R0 aF) ?_;dsimp only;rw[e5,ew,e5,e5];by_cases J:dD f=2047
 ·rw[bc J,if_pos J];by_cases R:g9 f=0
  ·rw[bc R,if_pos R];rfl
  ·rw[a5 R,if_neg R];rfl
 ·rw[a5 J,if_neg J];by_cases ae:dD f=0
  ·rw[bc ae];by_cases R:g9 f=0
   ·rw[bc R,if_pos ⟨ae,R⟩];rfl
   ·rw[a5 R,if_neg (fun h=>R h.2)];rfl
  ·rw[a5 ae,if_neg (fun h=>ae h.1)];rfl
theorem OT (f:Int):0<=g9 f/\g9 f<4503599627370496:=by unfold g9;omega
theorem KC (f:Int):0<=dD f/\dD f<2048:=by unfold dD;omega
theorem L8 {f:Int} (aF:eD f):zh (f,())=some (ck (gM f),()):=by
 unfold zh gM;have ao:=OT f;have aE:=KC f;refine aP (R0 aF) ?_;dsimp only;rw[e5,e5];by_cases J:dD f=2047
 ·rw[bc J,if_pos J];rfl
 rw[a5 J,if_neg J];obtain⟨m,e,PT,R,ae,aI,aX,bI⟩:∃m e,(bif decide (dD f=0) then some (Sum.inl ((-1074:Int),g9 f,((false,((false,([],())),((0:Int),()))):d7),())) else some (.inl (aY (dD f-1075),fr IntKind.u64 (g9 f) 4503599627370496,(false,((false,([],())),((0:Int),()))),())):Option ((Int×Int×d7×Unit)⊕h0))=some (.inl (e,m,(false,((false,([],())),((0:Int),()))),()))/\0<=m/\m<9007199254740992/\-1074<=e/\e<=972/\(m=(if dD f=0 then g9 f else g9 f+4503599627370496)/\e=(if dD f=0 then-1074 else dD f-1075)):=by
  by_cases g:dD f=0
  ·refine⟨g9 f,-1074,?_,by omega,by omega,by omega,by omega,by rw[if_pos g],by rw[if_pos g]⟩;rw[bc g];rfl
  ·refine⟨g9 f+4503599627370496,dD f-1075,?_,by omega,by omega,by omega,by omega,by rw[if_neg g],by rw[if_neg g]⟩;rw[a5 g,cp (by omega) (by omega),o5 52 (by omega) (by omega) (by omega) (by omega) (by omega) (by decide)];rfl
 rw[<-bI.1,<-bI.2];refine aP PT ?_;dsimp only;rw[cp (by omega) (by omega)];have aa:a7 m.natAbs<=53:=eo.2 (by omega);refine aP (O3 (by omega) (by omega)) ?_;refine aP (y:=((false,((false,([],())),((0:Int),()))),bf (if f<9223372036854775808 then m else-m),())) ?_ ?_
 ·refine aP (apd aF) ?_;dsimp only;by_cases g:f<9223372036854775808
  ·rw[a5 (show¬(9223372036854775808<=f) by omega),if_pos g];rfl
  ·rw[bc (show 9223372036854775808<=f by omega),if_neg g];exact aP (Zg (jY (by omega))) rfl
 ·dsimp only;refine aP (Q3 ?_ (by omega) (by omega)) rfl;split
  ·omega
  ·rw[Int.natAbs_neg];omega
def rK (neg:Bool) (M:Nat) (e:Int) (more:Bool):wL:=(neg,bf (M:Int),e,more,())
theorem fi (k:Nat):(k:Int).natAbs=k:=by omega
theorem anM {neg more:Bool} {M:Nat} {e:Int} (bC:a7 M<=900000) (J:-10000000<=e) (R:e<=10000000):Jb (rK neg M e more,())=some (e+a7 M-1,()):=by unfold Jb rK;refine aP (y3 (jY (by rw[fi];omega))) ?_;rw[fi];dsimp only;rw[cp (x:=e+(a7 M:Int)) (by omega) (by omega),cp (by omega) (by omega)]
theorem ahO {neg more:Bool} {M k:Nat} {e:Int} (bC:a7 M<=900000) (mO:0<M) (ac:0<k) (ga:k<=10000000):EC (rK neg M e more,(k:Int),())=some (bf ((M/2^k:Nat):Int),np M k more,decide (M %2^k=0)&&!more,()):=by
 unfold EC rK;refine aP (y3 (jY (by rw[fi];omega))) ?_;rw[fi];dsimp only;have awI:=Nat.two_pow_pos k;rw[cB];split
 ·rename_i h;have cg:M<2^(k-1):=eo.1 (by omega);obtain⟨j,rfl⟩:∃j,k=j+1:=⟨k-1,by omega⟩;simp only[Ee] at cg;have aC:M %2^(j+1)=M:=Nat.mod_eq_of_lt (by rw[mC];omega);have aV:M/2^(j+1)=0:=Nat.div_eq_of_lt (by rw[mC];omega);rw[aC,aV];have b4:np M (j+1) more=-1:=(by unfold np;rw[aC,if_pos (by rw[mC];omega)]);rw[b4,a5 (show¬M=0 by omega)];rfl
 rename_i h;have FP:=Nat.div_add_mod M (2^k);have ai:a7 (M/2^k)<=900000:=Nat.le_trans (pq (Nat.div_le_self _ _)) bC;have hr:a7 (M %2^k)<=900000:=Nat.le_trans (pq (Nat.mod_le _ _)) bC;have CE:M/2^k*2^k<=M:=Nat.div_mul_le_self _ _;refine aP (aaQ (m:=(M:Int)) (n:=k) (by rw[fi];omega) (by omega)) ?_;have aC:(M:Int)/2^k=((M/2^k:Nat):Int):=(by rw[<-oo,<-Int.natCast_ediv]);rw[aC];refine aP (C3 (m:=((M/2^k:Nat):Int)) (k:=(k:Int)) (by rw[fi];omega) (by omega) (by omega)) ?_;have aV:((M/2^k:Nat):Int)*2^(k:Int).toNat=((M/2^k*2^k:Nat):Int):=(by rw[Int.toNat_natCast,<-oo,<-Int.natCast_mul]);rw[aV];refine aP (auf (x:=(M:Int)) (y:=((M/2^k*2^k:Nat):Int)) (by rw[fi];omega) (by rw[fi];exact Nat.le_trans (pq CE) (by omega))) ?_;have b4:(M:Int)-((M/2^k*2^k:Nat):Int)=((M %2^k:Nat):Int):=(by rw[Nat.mul_comm] at CE|-;omega);rw[b4];refine aP (O3 (n:=1) (by decide) (by decide)) ?_;dsimp only;rw[cp (x:=(k:Int)-1) (by omega) (by omega)];refine aP (C3 (m:=1) (k:=(k:Int)-1) (by decide) (by omega) (by omega)) ?_;obtain⟨j,rfl⟩:∃j,k=j+1:=⟨k-1,by omega⟩;have fo:(1:Int)*2^(((j+1:Nat):Int)-1).toNat=((2^j:Nat):Int):=(by rw[Int.one_mul,<-oo];congr 2;omega);rw[fo];have al:a7 (2^j)<=900000:=(by have:a7 (2^j)<=j+1:=eo.2 (Nat.pow_lt_pow_right (by decide) (by omega));omega);refine aP (U4 (x:=((M %2^(j+1):Nat):Int)) (y:=((2^j:Nat):Int)) (by rw[fi];omega) (by rw[fi];omega)) ?_;dsimp only;have hc:(if fm ((M %2^(j+1):Nat):Int) ((2^j:Nat):Int)=0/\more=true then 1 else fm ((M %2^(j+1):Nat):Int) ((2^j:Nat):Int))=np M (j+1) more:=by
  unfold np fm;have rZ:2^(j+1)=2*2^j:=(by rw[mC,oI]);generalize M %2^(j+1)=r at*;rw[rZ];generalize 2^j=P at*;rcases rl r P with g|g|g
  ·rw[if_pos (show(r:Int)<(P:Int) by omega),if_neg (by simp),if_pos (by omega)]
  ·subst g;have aZ:(if(r:Int)<(r:Int) then(-1:Int) else if(r:Int)<(r:Int) then 1 else 0)=0:=(by simp);rw[aZ,if_neg (show¬(2*r<2*r) by omega),if_neg (show¬(2*r<2*r) by omega)];cases more<;>simp
  ·rw[if_neg (show¬((r:Int)<(P:Int)) by omega),if_pos (show(P:Int)<(r:Int) by omega),if_neg (by simp),if_neg (by omega),if_pos (by omega)]
 refine aP (y:=(np M (j+1) more,bf ((M/2^(j+1):Nat):Int),bf ((M %2^(j+1):Nat):Int),())) ?_ ?_
 ·rw[<-hc,e5];by_cases g:fm ((M %2^(j+1):Nat):Int) ((2^j:Nat):Int)=0
  ·rw[bc g];cases more
   ·rw[if_neg (fun h=>Bool.false_ne_true h.2)];rfl
   ·rw[if_pos ⟨g,rfl⟩];rfl
  ·rw[a5 g,if_neg (fun h=>g h.1)];rfl
 ·refine aP (v9 (z:=((M %2^(j+1):Nat):Int)) (jY (by rw[fi];omega))) ?_;dsimp only;rw[ss];by_cases g:M %2^(j+1)=0
  ·rw[bc (show((M %2^(j+1):Nat):Int)=0 by omega),bc g];cases more<;>rfl
  ·rw[a5 (show¬((M %2^(j+1):Nat):Int)=0 by omega),a5 g];rfl
theorem Zn {n:Nat}:(n≠0/\cF n=0)↔n %2=1:=by
 constructor
 ·rintro⟨J,R⟩;have:=As (n:=n) (k:=1) (by omega);rw[R,Nat.pow_one] at this;omega
 ·intro h;refine⟨by omega,?_⟩;have:=As (n:=n) (k:=1) (by omega);rw[Nat.pow_one] at this;omega
theorem ao0 {neg more:Bool} {M:Nat} {e q mode:Int} (bC:a7 M<=900000) (mO:0<M) (J:-1000000<=e-q) (R:e-q<=1000000):Jc (rK neg M e more,q,mode,())=some (bf (if neg then-((if q<=e then M*2^(e-q).toNat else jW neg M (q-e).toNat more mode:Nat):Int) else((if q<=e then M*2^(e-q).toNat else jW neg M (q-e).toNat more mode:Nat):Int)),()):=by
 unfold Jc;have fP:∀n:Nat,a7 n<=2000000->(Option.bind (α:=pn) (
  bif neg then
 (wY (bf (n:Int),())).bind fun(pT,_)=>
 some (((false,([],())):dX),pT,()) else
 some ((false,([],())),bf (n:Int),())) fun(_,Rl,_)=>
 some (Rl,()))=some (bf (if neg then-(n:Int) else(n:Int)),()):=fun n ag=>by
  cases neg
  ·rfl
  ·refine aP (y:=((false,([],())),bf (-(n:Int)),())) ?_ rfl;have aF:Fit (n:Int)\/True:=.inr trivial;have hc:=ip (z:=(n:Int)) (by rw[fi];omega);refine aP (y:=(bf (-(n:Int)),())) ?_ rfl;unfold wY;refine aP (Ex (by have:=hc.2.2;omega)) (aP (BP (nZ _) (by have:=hc.2.2;omega)) ?_);have h:=M8 (bf (n:Int)).1 (bf (n:Int)).2.1;have R:=q6 (n:Int);rw[h];show some (bf (-gj (bf (n:Int))),())=_;rw[R]
 by_cases ai:q<=e
 ·rw[if_pos ai];obtain⟨k,ac⟩:∃k:Nat,e-q=k:=⟨(e-q).toNat,by omega⟩;rw[ac,d4];refine aP (y:=((-1:Int),true,(false,([],())),bf ((M*2^k:Nat):Int),())) ?_ ?_
  ·show(bif decide (q<=e) then _ else _)=_;rw[bc ai];refine aP (y:=(bf ((M*2^k:Nat):Int),())) ?_ rfl;show rE (bf (M:Int),aY (e-q),())=_;rw[cp (by omega) (by omega),C3 (by rw[fi];omega) (by omega) (by omega),ac,d4,qe,oo]
  ·refine aP rfl (aP rfl ?_);exact fP _ (eu IQ (by omega))
 ·rw[if_neg ai];obtain⟨k,ac⟩:∃k:Nat,q-e=k:=⟨(q-e).toNat,by omega⟩;rw[ac,d4];refine aP (y:=(np M k more,decide (M %2^k=0)&&!more,(false,([],())),bf ((M/2^k:Nat):Int),())) ?_ ?_
  ·show(bif decide (q<=e) then _ else _)=_;rw[a5 ai];refine aP (y:=(bf ((M/2^k:Nat):Int),np M k more,decide (M %2^k=0)&&!more,())) ?_ rfl;show EC (rK neg M e more,aY (q-e),())=_;rw[cp (by omega) (by omega),ac];exact ahO bC mO (by omega) (by omega)
  ·have Aa:a7 (M/2^k)<=900000:=eu (pq (Ef _ _)) bC;refine aP (y:=(!(decide (M %2^k=0)&&!more)&&Bb neg (np M k more) (decide (M/2^k %2=1)) mode,(false,([],())),bf ((M/2^k:Nat):Int),())) ?_ ?_
   ·dsimp only;cases ab:(decide (M %2^k=0)&&!more) with
    |true=>rfl
    |false=>
     show(bif mode==1 then some (neg,_,_,()) else _)=_;unfold Bb;rw[e5,e5,e5];by_cases ie:mode=1
     ·rw[bc ie,if_pos ie];rfl
     rw[a5 ie,if_neg ie];by_cases fc:mode=2
     ·rw[bc fc,if_pos fc];rfl
     rw[a5 fc,if_neg fc];by_cases iS:mode=3
     ·rw[bc iS,if_pos iS];rfl
     rw[a5 iS,if_neg iS];generalize np M k more=c;show(bif decide (c>0)==false then _ else _)=_;by_cases c4:c>0
     ·rw[bc c4];rfl
     rw[a5 c4];show(bif (c==0)==true then _ else _)=_;rw[e5];by_cases jU:c=0
     ·rw[bc jU];refine aP (v9 (z:=((M/2^k:Nat):Int)) (jY (by rw[fi];omega))) ?_;dsimp only;have tk:=Zn (n:=M/2^k);rw[ew];by_cases z0:M/2^k=0
      ·rw[bc (show fY ((M/2^k:Nat):Int)=0 by rw[z0];rfl),a5 (show¬(M/2^k %2=1) by rw[z0];decide)];rfl
      ·have hs:fY ((M/2^k:Nat):Int)≠0:=by
        unfold fY;rw[if_neg (by omega)];split<;>omega
       rw[a5 hs];refine aP (abQ (z:=((M/2^k:Nat):Int)) (jY (by rw[fi];omega)) (by omega)) ?_;rw[fi];dsimp only;rw[e5];by_cases t0:cF (M/2^k)=0
       ·rw[bc (show(cF (M/2^k):Int)=0 by omega),bc (tk.1 ⟨z0,t0⟩)];rfl
       ·rw[a5 (show¬(cF (M/2^k):Int)=0 by omega),a5 (fun h=>t0 (tk.2 h).2)];rfl
     ·rw[a5 jU];rfl
   ·dsimp only;refine aP (y:=((false,([],())),bf ((jW neg M k more mode:Nat):Int),())) ?_ ?_
    ·unfold jW;by_cases ab:M %2^k=0/\more=false
     ·rw[if_pos ab,bc ab.1,ab.2];rfl
     ·have oY:(decide (M %2^k=0)&&!more)=false:=by
       by_cases h:M %2^k=0
       ·cases more
        ·exact absurd ⟨h,rfl⟩ ab
        ·rw[bc h];rfl
       ·rw[a5 h];rfl
      rw[if_neg ab,oY];by_cases aQ:Bb neg (np M k more) (decide (M/2^k %2=1)) mode=true
      ·rw[if_pos aQ,aQ];refine aP (O3 (n:=1) (by decide) (by decide)) ?_;refine aP (T2 (x:=((M/2^k:Nat):Int)) (y:=1) (by rw[fi];omega) (by decide)) ?_;rfl
      ·rw[if_neg aQ,Bool.eq_false_iff.2 aQ];rfl
    ·refine fP _ ?_;have:jW neg M k more mode<=M/2^k+1:=by
      unfold jW;split
      ·omega
      ·split<;>omega
     exact eu (pq this) (eu (agJ Aa (show a7 1<=900000 by decide)) (by omega))
theorem HE {f:Int} {neg:Bool} (J:0<=f) (R:f<9223372036854775808):zi (f,neg,())=some (ox neg f,()):=by
 unfold zi ox;cases neg
 ·rfl
 ·dsimp only;rw[o5 63 J (by exact R) (by decide) (by omega) (by decide) (by decide),Int.add_comm];rfl
theorem aaa {neg:Bool} {mode:Int}:Jn (neg,mode,())=some (tI neg mode,()):=by
 unfold Jn tI;dsimp only;refine aP (y:=if(mode=3\/(mode=1/\neg=false)\/(mode=2/\neg=true)) then .inr (ox neg 9218868437227405311,()) else .inl ()) ?_ ?_
 ·refine aP (y:=(decide (mode=3\/(mode=1/\neg=false)\/(mode=2/\neg=true)),())) ?_ ?_
  ·rw[e5,e5,e5];by_cases iS:mode=3
   ·subst iS;simp
   ·by_cases ie:mode=1
    ·subst ie;cases neg<;>simp
    ·by_cases fc:mode=2
     ·subst fc;cases neg<;>simp
     ·simp[ie,fc,iS]
  ·dsimp only;by_cases h:(mode=3\/(mode=1/\neg=false)\/(mode=2/\neg=true))
   ·rw[bc h,if_pos h];exact aP (HE (by decide) (by decide)) rfl
   ·rw[a5 h,if_neg h];rfl
 ·by_cases h:(mode=3\/(mode=1/\neg=false)\/(mode=2/\neg=true))
  ·rw[if_pos h,if_pos h]
  ·rw[if_neg h,if_neg h];exact aP (HE (by decide) (by decide)) rfl
theorem S8 {neg more:Bool} {M:Nat} {e mode:Int} (mO:0<M):(if cQ M e<=e then M*2^(e-cQ M e).toNat else jW neg M (cQ M e-e).toNat more mode)<=9007199254740992:=by
 have aa:=eo.1 (bS (a7 M));have Px:=uD mO;have r1:e+a7 M-53<=cQ M e:=(by unfold cQ;omega);split
 ·rename_i h;have R:M*2^(e-cQ M e).toNat<2^a7 M*2^(e-cQ M e).toNat:=Nat.mul_lt_mul_of_pos_right aa (mD _);rw[<-lR] at R;have ae:2^(a7 M+(e-cQ M e).toNat)<=2^53:=uw (by decide) (by omega);have aI:(2:Nat)^53=9007199254740992:=(by decide);omega
 ·rename_i h;have R:M/2^(cQ M e-e).toNat<2^53:=by
   rw[Nat.div_lt_iff_lt_mul (mD _),<-lR];exact jn aa (uw (by decide) (by omega))
  have aI:(2:Nat)^53=9007199254740992:=(by decide);unfold jW;split
  ·omega
  ·split<;>omega
theorem aaY {neg more:Bool} {M:Nat} {e mode:Int} (bC:a7 M<=800000) (mO:0<M) (J:-500000<=e) (R:e<=500000):EF (rK neg M e more,mode,())=some (ot neg M e more mode,()):=by
 have Px:=uD mO;have fb:=S8 (neg:=neg) (more:=more) (mode:=mode) (e:=e) mO;have CJ:ot neg M e more mode=sj neg (if cQ M e<=e then M*2^(e-cQ M e).toNat else jW neg M (cQ M e-e).toNat more mode) (cQ M e) mode:=(by unfold ot;split<;>rfl);have tq:cQ M e=if(-1074:Int)>e+a7 M-1-52 then-1074 else e+a7 M-1-52:=by unfold cQ;split<;>omega
 have tn:-1074<=cQ M e:=(by unfold cQ;omega);have r1:cQ M e<=1400000:=(by unfold cQ;omega);unfold EF;refine aP (anM (by omega) (by omega) (by omega)) ?_;dsimp only;rw[cp (by omega) (by omega),<-tq,CJ];refine aP (ao0 (by omega) mO ?_ ?_) ?_
 ·unfold cQ;omega
 ·unfold cQ;omega
 generalize(if cQ M e<=e then M*2^(e-cQ M e).toNat else jW neg M (cQ M e-e).toNat more mode)=n at*;generalize cQ M e=u at*;have fA:a7 n<=54:=eo.2 (by omega);have WD:(if neg then-(n:Int) else(n:Int)).natAbs=n:=(by cases neg<;>simp);refine aP (Ny (jY (by rw[WD];omega))) ?_;rw[WD];refine aP (amX (z:=(n:Int)) (by omega) (by omega)) ?_;dsimp only;rw[dT (x:=(n:Int)) (by omega) (by omega),e5];show Option.bind _ _=some (sj neg n u mode,());unfold sj;by_cases c4:n=9007199254740992
 ·rw[bc (show(n:Int)=9007199254740992 by omega),if_neg (show¬n<4503599627370496 by omega),if_pos c4];refine aP (y:=(u+1,4503599627370496,())) ?_ ?_
  ·show some (bR u,4503599627370496,())=_;unfold bR;rw[wrap64 (by omega) (by omega)]
  dsimp only;rw[a5 (show¬((4503599627370496:Int)<4503599627370496) by omega),cp (by omega) (by omega),cond_false,cB];split
  ·rename_i g;exact aP aaa rfl
  ·rename_i g;rw[dT (by omega) (by omega),p2 (by decide) (by decide),show(2:Int)^(52:Int).toNat=4503599627370496 from rfl,br];have aC:bo (4503599627370496-4503599627370496)=0:=(by rw[dT (by omega) (by omega)];omega);have aV:(u+1+1075)*4503599627370496 %18446744073709551616=(u+1+1075)*4503599627370496:=(by omega);rw[aC,aV,Hh,o5 52 (by decide) (by decide) (by omega) (by decide) (by omega) (by omega),Int.zero_add];exact aP (HE (by omega) (by omega)) rfl
 ·rw[a5 (show¬(n:Int)=9007199254740992 by omega)];refine aP (y:=(u,(n:Int),())) rfl ?_;dsimp only;rw[cB];by_cases cd:n<4503599627370496
  ·rw[if_pos (show(n:Int)<4503599627370496 by omega),if_pos cd];exact aP (HE (by omega) (by omega)) rfl
  ·rw[if_neg (show¬(n:Int)<4503599627370496 by omega),if_neg cd,if_neg c4,cp (by omega) (by omega),cB];split
   ·rename_i g;exact aP aaa rfl
   ·rename_i g;rw[dT (x:=u+1075) (by omega) (by omega),p2 (by decide) (by decide),show(2:Int)^(52:Int).toNat=4503599627370496 from rfl,Option.bind_some,dT (x:=(n:Int)-4503599627370496) (by omega) (by omega)];have aV:(u+1075)*4503599627370496 %18446744073709551616=(u+1075)*4503599627370496:=(by omega);rw[aV,Hh,o5 52 (by omega) (by omega) (by omega) (by omega) (by omega) (by omega)];refine aP (HE (by omega) (by omega)) ?_;dsimp only;congr 3;omega
def vU (a b:Option Int) (mode:Int):Int:=match a,b with
 |some x,some y=>if y=0 then 9221120237041090560 else if x=0 then 0 else Ds x y mode
 |_,_=>9221120237041090560
def tR (d:Option Int) (mode:Int):Int:=match d with
 |some v=>if v<0 then 9221120237041090560 else if v=0 then 0 else Dw v mode
 |none=>9221120237041090560
theorem Rs (v:Int):(bf (b6 v)).1=decide (v<0):=by show decide (b6 v<0)=_;rw[decide_eq_decide];exact G9
theorem asN {x y:Int} (ab:iT x) (aB:iT y) (na:x≠0) (g4:y≠0) (mode:Int):∃M e more,Ja (ck (some x),ck (some y),56,())=some (rK (decide (x<0)!=decide (y<0)) M e more,())/\0<M/\a7 M<=800000/\-500000<=e/\e<=500000/\ot (decide (x<0)!=decide (y<0)) M e more mode=Ds x y mode:=by
 have J:=pV ab;have R:=pV aB;have ae:=pU ab;have aI:=pU aB;have eS:0<(b6 x).natAbs:=(by have:=sg na;omega);have eP:0<(b6 y).natAbs:=(by have:=sg g4;omega);obtain⟨n,ag⟩:∃n,n=vT (b6 x).natAbs (b6 y).natAbs:=⟨_,rfl⟩;have vb:n<=131131:=(by rw[ag];unfold vT;omega);have Aa:58<=a7 ((b6 x).natAbs*2^n/(b6 y).natAbs):=aav eS eP (by rw[ag];unfold vT;omega);have Xe:a7 ((b6 x).natAbs*2^n)<=262203:=(by have:=IQ (m:=(b6 x).natAbs) (n:=n);omega);refine⟨(b6 x).natAbs*2^n/(b6 y).natAbs,dH x-n-dH y,decide ((b6 x).natAbs*2^n %(b6 y).natAbs≠0),?_,?_,?_,by omega,by omega,?_⟩
 ·unfold Ja;rw[ln,ln];refine aP (y3 (jY (by omega))) (aP (y3 (jY (by omega))) (aP (Ny (jY (by omega))) ?_));dsimp only;have aC:(if aY (aY (aY (56+3)+(a7 (b6 y).natAbs:Int))-(a7 (b6 x).natAbs:Int))>0 then aY (aY (aY (56+3)+(a7 (b6 y).natAbs:Int))-(a7 (b6 x).natAbs:Int)) else 0)=(n:Int):=by
   rw[cp (x:=56+3) (by decide) (by decide),cp (x:=56+3+(a7 (b6 y).natAbs:Int)) (by omega) (by omega),cp (by omega) (by omega),ag];unfold vT;split<;>omega
  rw[aC];refine aP (C3 (m:=((b6 x).natAbs:Int)) (by rw[fi];omega) (by omega) (by omega)) (aP (Ny (jY (by omega))) ?_);have aV:((b6 x).natAbs:Int)*2^(n:Int).toNat=(((b6 x).natAbs*2^n:Nat):Int):=(by rw[Int.toNat_natCast,<-oo,<-Int.natCast_mul]);rw[aV];refine aP (ah9 (x:=(((b6 x).natAbs*2^n:Nat):Int)) (y:=((b6 y).natAbs:Int)) (by rw[fi];omega) (by rw[fi];omega) (by omega) (by omega)) ?_;rw[<-Int.natCast_ediv,<-Int.natCast_emod];have hr:a7 ((b6 x).natAbs*2^n %(b6 y).natAbs)<=900000:=Nat.le_trans (pq (Nat.mod_le _ _)) (by omega);refine aP (v9 (jY (by rw[fi];omega))) ?_;dsimp only;rw[cp (x:=dH x-(n:Int)) (by omega) (by omega),cp (by omega) (by omega),Rs,Rs];unfold rK;have b4:(fY (((b6 x).natAbs*2^n %(b6 y).natAbs:Nat):Int)!=0)=decide ((b6 x).natAbs*2^n %(b6 y).natAbs≠0):=by
   show(!(fY (((b6 x).natAbs*2^n %(b6 y).natAbs:Nat):Int)==0))=_;rw[ss];by_cases g:(b6 x).natAbs*2^n %(b6 y).natAbs=0
   ·rw[bc (by omega),a5 (fun h=>h g)];rfl
   ·rw[a5 (by omega),bc g];rfl
  rw[b4];rfl
 ·rcases rk ((b6 x).natAbs*2^n/(b6 y).natAbs) with g|g
  ·rw[g] at Aa;exact absurd Aa (by decide)
  ·exact g
 ·exact eu (pq (Ef _ _)) (by omega)
 ·unfold Ds Mw;rw[<-ag];congr 1;unfold dH;rw[if_neg na,if_neg g4];omega
theorem ajL {a b:Option Int} {mode:Int} (aG:gU a) (aa:gU b):Jk (ck a,ck b,mode,())=some (vU a b mode,()):=by
 unfold Jk;refine aP (Ow aG) (aP (Ow aa) ?_);dsimp only;rw[Kx,Kx];cases a with
 |none=>cases b<;>rfl
 |some x=>
  cases b with
  |none=>rfl
  |some y=>
   by_cases g4:y=0
   ·subst g4;refine aP (y:=.inr (9221120237041090560,())) ?_ rfl;refine aP (y:=(true,ck (some x),ck (some 0),())) ?_ rfl;refine aP (rI aa) ?_;rfl
   by_cases na:x=0
   ·subst na;refine aP (y:=.inr (0,())) ?_ ?_
    ·refine aP (y:=(false,ck (some 0),ck (some y),())) ?_ ?_
     ·refine aP (rI aa) ?_;dsimp only;rw[show v5 (some y)=fY y from rfl,ss,a5 g4]
     ·refine aP (rI aG) ?_;rfl
    ·unfold vU;simp only;rw[if_neg g4];rfl
   ·obtain⟨M,e,more,bT,bz,cZ,cU,gD,jZ⟩:=asN (aG x rfl) (aa y rfl) na g4 mode;refine aP (y:=.inl (ck (some x),ck (some y),())) ?_ ?_
    ·refine aP (y:=(false,ck (some x),ck (some y),())) ?_ ?_
     ·refine aP (rI aa) ?_;dsimp only;rw[show v5 (some y)=fY y from rfl,ss,a5 g4]
     ·refine aP (rI aG) ?_;dsimp only;rw[show v5 (some x)=fY x from rfl,ss,a5 na];rfl
    ·refine aP bT (aP (aaY cZ bz cU gD) ?_);unfold vU;simp only;rw[if_neg g4,if_neg na,jZ]
theorem as8 {v:Int} (hv:iT v) (aU:0<v) (mode:Int):∃M e more,Jd (ck (some v),56,())=some (rK false M e more,())/\0<M/\a7 M<=800000/\-500000<=e/\e<=500000/\ot false M e more mode=Dw v mode:=by
 have J:=pV hv;have ae:=pU hv;have v0:v≠0:=(by omega);have mV:0<b6 v:=(by have:=G9 (v:=v);have:=sg v0;omega);obtain⟨B,eP⟩:∃B:Nat,b6 v=B:=⟨(b6 v).toNat,by omega⟩;have Wp:(b6 v).natAbs=B:=(by omega);rw[Wp] at J;have ns:0<B:=(by omega);have oU:dH v=i7 v:=(by unfold dH;rw[if_neg v0]);obtain⟨n,ag⟩:∃n,n=so B (dH v):=⟨_,rfl⟩;have l7:n<=119:=(by rw[ag];unfold so;split<;>omega);have h6:118<=a7 B+n:=(by rw[ag];unfold so;split<;>omega);have pF:(dH v-n) %2=0:=(by rw[ag];unfold so;split<;>omega);have Xe:a7 (B*2^n)<=131191:=(by have:=IQ (m:=B) (n:=n);omega);have F6:58<=a7 (eW (B*2^n)):=XZ (by rw[y5 ns];omega);have ami:eW (B*2^n)<=B*2^n:=by
  obtain⟨gP,iC⟩:=Gk (B*2^n);rcases rk (eW (B*2^n)) with g|g
  ·omega
  ·exact eu (Nat.le_mul_of_pos_left _ g) gP
 have awL:=pq ami;refine⟨eW (B*2^n),(dH v-n)/2,decide (eW (B*2^n)*eW (B*2^n)≠B*2^n),?_,?_,by omega,by omega,by omega,?_⟩
 ·unfold Jd;rw[ln,eP];refine aP (y3 (jY (by rw[fi];omega))) ?_;rw[fi];dsimp only;have aC:(if aY (aY (2*aY (56+3))-(a7 B:Int))>0 then aY (aY (2*aY (56+3))-(a7 B:Int)) else 0)=((118-a7 B:Nat):Int):=by
   rw[cp (x:=56+3) (by decide) (by decide),cp (x:=2*(56+3)) (by decide) (by decide),cp (by omega) (by omega)];split<;>omega
  rw[aC];refine aP (y:=((n:Int),(false,((false,([],())),((0:Int),(false,())))),())) ?_ ?_
  ·rw[cp (by omega) (by omega)];refine aP (y:=(dH v-((118-a7 B:Nat):Int)).tmod 2) (by unfold jB;rw[if_pos (by decide)]) ?_;rw[ew];have vc:((dH v-((118-a7 B:Nat):Int)).tmod 2=0)↔((dH v-((118-a7 B:Nat):Int)) %2=0):=by
    constructor
    ·intro h;have:=Int.dvd_of_tmod_eq_zero h;omega
    ·intro h;exact Int.tmod_eq_zero_of_dvd (Int.dvd_of_emod_eq_zero h)
   by_cases g:(dH v-((118-a7 B:Nat):Int)) %2=0
   ·rw[bc (vc.2 g)];show some (((118-a7 B:Nat):Int),_,())=_;rw[ag];unfold so;rw[if_pos g]
   ·rw[a5 (fun h=>g (vc.1 h))];show some (bR ((118-a7 B:Nat):Int),_,())=_;rw[cY (by omega),ag];unfold so;rw[if_neg g]
  ·dsimp only;refine aP (C3 (m:=(B:Int)) (k:=(n:Int)) (by rw[fi];omega) (by omega) (by omega)) ?_;have aV:(B:Int)*2^(n:Int).toNat=((B*2^n:Nat):Int):=by
    rw[d4,<-oo,<-qe]
   rw[aV];refine aP (at3 (x:=((B*2^n:Nat):Int)) (by rw[fi];omega) (by omega)) ?_;rw[Int.toNat_natCast];dsimp only;rw[cp (by omega) (by omega)];refine aP (y:=(dH v-n)/2) ?_ ?_
   ·unfold j8;have:(dH v-(n:Int)).tdiv 2=(dH v-(n:Int))/2:=by
     obtain⟨c,hc⟩:∃c,dH v-(n:Int)=2*c:=⟨(dH v-(n:Int))/2,by omega⟩;rw[hc,Int.mul_tdiv_cancel_left _ (by decide),Int.mul_ediv_cancel_left _ (by decide)]
    rw[if_pos (by decide),this,wrap64 (by omega) (by omega)]
   refine aP (Y2 (x:=(eW (B*2^n):Int)) (y:=(eW (B*2^n):Int)) (by rw[fi];omega) (by rw[fi];omega)) ?_;rw[<-Int.natCast_mul];have awN:a7 (eW (B*2^n)*eW (B*2^n))<=900000:=(by have:=Es (k:=131191) (l:=131191) (show a7 (eW (B*2^n))<=131191 by omega) (show a7 (eW (B*2^n))<=131191 by omega);omega);refine aP (U4 (x:=((eW (B*2^n)*eW (B*2^n):Nat):Int)) (y:=((B*2^n:Nat):Int)) (by rw[fi];omega) (by rw[fi];omega)) ?_;dsimp only;unfold rK;have b4:(fm ((eW (B*2^n)*eW (B*2^n):Nat):Int) ((B*2^n:Nat):Int)!=0)=decide (eW (B*2^n)*eW (B*2^n)≠B*2^n):=by
    rw[ew];generalize eW (B*2^n)*eW (B*2^n)=p;generalize B*2^n=q;by_cases g:p=q
    ·subst g;rw[a5 (show¬(p≠p) from fun h=>h rfl),bc (by unfold fm;rw[if_neg (by omega),if_neg (by omega)])];rfl
    ·rw[bc g,a5 (by unfold fm;split;omega;split<;>omega)];rfl
   rw[b4]
 ·rcases rk (eW (B*2^n)) with g|g
  ·rw[g] at F6;exact absurd F6 (by decide)
  ·exact g
 ·unfold Dw MJ;rw[Wp,<-oU,<-ag]
theorem ajP {d:Option Int} {mode:Int} (aN:gU d):Jl (ck d,mode,())=some (tR d mode,()):=by
 unfold Jl;refine aP (Ow aN) ?_;dsimp only;rw[Kx];cases d with
 |none=>rfl
 |some v=>
  have hs:v5 (some v)=fY v:=rfl;by_cases aU:v<0
  ·refine aP (y:=.inr (9221120237041090560,())) ?_ ?_
   ·refine aP (y:=(true,ck (some v),())) ?_ rfl;refine aP (rI aN) ?_;dsimp only;rw[hs,bc (show fY v<0 by unfold fY;rw[if_neg (by omega),if_pos aU];decide)]
   ·unfold tR;simp only;rw[if_pos aU]
  ·have ag:decide (fY v<0)=false:=a5 (by unfold fY;split;omega;first|decide|(split<;>omega));by_cases z:v=0
   ·subst z;refine aP (y:=.inr (0,())) ?_ rfl;refine aP (y:=(false,ck (some 0),())) ?_ ?_
    ·exact aP (rI aN) rfl
    ·exact aP (rI aN) rfl
   ·obtain⟨M,e,more,bT,bz,cZ,cU,gD,jZ⟩:=as8 (aN v rfl) (by omega) mode;refine aP (y:=.inl (ck (some v),())) ?_ ?_
    ·refine aP (y:=(false,ck (some v),())) ?_ ?_
     ·refine aP (rI aN) ?_;dsimp only;rw[hs,ag]
     ·refine aP (rI aN) ?_;dsimp only;rw[hs,ss,a5 z];rfl
    ·refine aP bT (aP (aaY cZ bz cU gD) ?_);unfold tR;simp only;rw[if_neg aU,if_neg z,jZ]
theorem atm:uL (bf 0,())=some (0,()):=by
 unfold uL;refine aP (Dx (l:=[]) bp.nil (fun x ab=>by cases ab) (by decide)) ?_;refine U.eq_iff.1 (U.bP (P:=fun q=>q=.inl ()) ?_ ?_)
 ·refine U.steps 0 (fun i s=>s=((0:Int),())) rfl (fun i s hi=>by omega) ?_;rintro _ rfl;exact U.au.2 rfl
 ·rintro _ rfl;exact U.au.2 rfl
theorem aaV {n:Nat} (ag:a7 n<=900000):∃t,uL (bf (n:Int),())=some (t,())/\((t=0/\n≠0)↔n %2=1):=by
 by_cases h:n=0
 ·subst h;exact⟨0,atm,by simp⟩
 ·refine⟨(cF n:Int),?_,?_⟩
  ·have:=aa7 (z:=(n:Int)) (by rw[fi];omega) (by omega);rw[fi] at this;exact this
  ·rw[<-Zn];constructor
   ·rintro⟨J,R⟩;exact⟨R,by omega⟩
   ·rintro⟨J,R⟩;exact⟨by omega,J⟩
theorem auN {neg Hb:Bool} {c mode:Int}:J6 (neg,c,Hb,mode,())=some (Bb neg c Hb mode,()):=by
 unfold J6 Bb;dsimp only;rw[e5,e5,e5,e5];by_cases ie:mode=1
 ·rw[bc ie,if_pos ie];rfl
 rw[a5 ie,if_neg ie];by_cases fc:mode=2
 ·rw[bc fc,if_pos fc];rfl
 rw[a5 fc,if_neg fc];by_cases iS:mode=3
 ·rw[bc iS,if_pos iS];rfl
 rw[a5 iS,if_neg iS];by_cases c4:c>0
 ·rw[bc c4];rfl
 rw[a5 c4];by_cases jU:c=0
 ·rw[bc jU];cases Hb<;>rfl
 ·rw[a5 jU];rfl
theorem asQ {neg more:Bool} {M n:Nat} {mode:Int} (bC:a7 M<=800000) (ag:n<=1000000):J4 (neg,bf (M:Int),(n:Int),more,mode,())=some (bf ((jW neg M n more mode:Nat):Int),()):=by
 unfold J4;have VA:∀k:Nat,(M:Int)/2^k=((M/2^k:Nat):Int):=fun k=>(by rw[<-oo,<-Int.natCast_ediv]);have VC:∀k:Nat,decide (((M:Int).natAbs:Int) %2^k≠0)=decide (M %2^k≠0):=fun k=>(by rw[fi,<-oo,<-Int.natCast_emod,decide_eq_decide];omega);have ai:∀k,a7 (M/2^k)<=800000:=fun k=>Nat.le_trans (pq (Nat.div_le_self _ _)) bC;refine aP (Sm (m:=(M:Int)) (n:=n) (by rw[fi];omega) (by omega)) ?_;rw[VA];refine aP (aaR (z:=(M:Int)) (n:=n) (by rw[fi];omega) (by omega)) ?_;rw[VC];dsimp only;by_cases ab:M %2^n=0/\more=false
 ·refine aP (y:=.inr (bf ((M/2^n:Nat):Int),())) ?_ ?_
  ·rw[a5 (fun h=>h ab.1),ab.2];rfl
  ·unfold jW;rw[if_pos ab]
 refine aP (y:=.inl ((false,([],())),bf ((M/2^n:Nat):Int),())) ?_ ?_
 ·by_cases h:M %2^n=0
  ·have:more=true:=by
    cases more
    ·exact absurd ⟨h,rfl⟩ ab
    ·rfl
   rw[a5 (fun R=>R h),this];rfl
  ·rw[bc h];rfl
 dsimp only;refine aP (y:=(np M n more,(false,([],())),bf ((M/2^n:Nat):Int),())) ?_ ?_
 ·rw[cB];split
  ·rename_i h;obtain⟨j,rfl⟩:∃j,n=j+1:=⟨n-1,by omega⟩;have aiD:aY (((j+1:Nat):Int)-1)=(j:Int):=(by rw[cp (by omega) (by omega)];omega);rw[aiD];refine aP (Sm (m:=(M:Int)) (n:=j) (by rw[fi];omega) (by omega)) ?_;rw[VA];obtain⟨t,af,tk⟩:=aaV (n:=M/2^j) (by have:=ai j;omega);have PU:=aoT M j 1;rw[Nat.pow_one] at PU;have cg:=Nat.mod_lt M (mD j);have rZ:2^(j+1)=2*2^j:=(by rw[mC,oI]);refine aP (y:=(decide (M/2^j %2=1),(false,([],())),bf ((M/2^(j+1):Nat):Int),())) ?_ ?_
   ·refine aP af ?_;dsimp only;rw[e5];by_cases t0:t=0
    ·rw[bc t0];refine aP (Hw (z:=((M/2^j:Nat):Int)) (by rw[fi];have:=ai j;omega)) ?_;dsimp only;have b4:(fY ((M/2^j:Nat):Int)!=0)=decide (M/2^j %2=1):=by
      show(!(fY ((M/2^j:Nat):Int)==0))=_;rw[ss];by_cases g:M/2^j=0
      ·rw[bc (by omega),a5 (fun h=>(tk.2 h).2 g)];rfl
      ·rw[a5 (by omega),bc (tk.1 ⟨t0,g⟩)];rfl
     rw[b4]
    ·rw[a5 t0,a5 (fun h=>t0 (tk.2 h).1)];rfl
   ·dsimp only;unfold np;by_cases aH:M/2^j %2=1
    ·rw[bc aH];have hr:M %2^(j+1)=2^j+M %2^j:=(by rw[PU,aH,kP]);rw[hr,if_neg (by omega)];cases more
     ·show(Option.bind _ _)=_;refine aP (aaR (z:=(M:Int)) (n:=j) (by rw[fi];omega) (by omega)) ?_;rw[VC];dsimp only;by_cases g:M %2^j=0
      ·rw[a5 (fun h=>h g),g,if_neg (by omega)];rfl
      ·rw[bc g,if_pos (by omega)];rfl
     ·show some (1,_,_,())=_;split<;>rfl
    ·rw[a5 aH];have hr:M %2^(j+1)=M %2^j:=by
      rw[PU,show M/2^j %2=0 by omega,Nat.zero_mul,ks]
     rw[hr,if_pos (by omega)];rfl
  ·rename_i h;obtain rfl:n=0:=(by omega);unfold np;rw[if_pos (by rw[Nat.pow_zero,Nat.mod_one];decide)]
 ·dsimp only;obtain⟨t,af,tk⟩:=aaV (n:=M/2^n) (by have:=ai n;omega);refine aP (y:=(decide (M/2^n %2=1),(false,([],())),bf ((M/2^n:Nat):Int),())) ?_ ?_
  ·refine aP (Hw (z:=((M/2^n:Nat):Int)) (by rw[fi];have:=ai n;omega)) ?_;dsimp only;have b4:(fY ((M/2^n:Nat):Int)!=0)=decide (M/2^n≠0):=by
    show(!(fY ((M/2^n:Nat):Int)==0))=_;rw[ss];by_cases g:M/2^n=0
    ·rw[bc (by omega),a5 (fun h=>h g)];rfl
    ·rw[a5 (by omega),bc g];rfl
   rw[b4];by_cases g:M/2^n=0
   ·rw[a5 (fun h=>h g),a5 (fun h=>(tk.2 h).2 g)];rfl
   ·rw[bc g];refine aP af ?_;dsimp only;rw[e5];by_cases t0:t=0
    ·rw[bc t0,bc (tk.1 ⟨t0,g⟩)]
    ·rw[a5 t0,a5 (fun h=>t0 (tk.2 h).1)]
  ·dsimp only;refine aP (y:=((false,([],())),bf ((jW neg M n more mode:Nat):Int),())) ?_ rfl;refine aP auN ?_;dsimp only;unfold jW;rw[if_neg ab];by_cases aQ:Bb neg (np M n more) (decide (M/2^n %2=1)) mode=true
   ·rw[if_pos aQ,aQ];refine aP (Sr (n:=1) (by decide) (by decide)) ?_;refine aP (Mz (x:=((M/2^n:Nat):Int)) (y:=1) (by rw[fi];have:=ai n;omega) (by decide)) ?_;rfl
   ·rw[if_neg aQ,Bool.eq_false_iff.2 aQ];rfl
theorem Hx {f:Int} {neg:Bool} (J:0<=f) (R:f<9223372036854775808):uN (neg,f,())=some (ox neg f,()):=by
 unfold uN ox;cases neg
 ·rfl
 ·dsimp only;rw[o5 63 J (by exact R) (by decide) (by omega) (by decide) (by decide),Int.add_comm];rfl
theorem Sv {neg:Bool} {mode:Int}:E6 (neg,mode,())=some (tI neg mode,()):=by
 unfold E6 tI;dsimp only;refine aP (y:=if(mode=3\/(mode=1/\neg=false)\/(mode=2/\neg=true)) then .inr (ox neg 9218868437227405311,()) else .inl ()) ?_ ?_
 ·refine aP (y:=(decide (mode=3\/(mode=1/\neg=false)\/(mode=2/\neg=true)),())) ?_ ?_
  ·rw[e5,e5,e5];by_cases iS:mode=3
   ·subst iS;simp
   ·by_cases ie:mode=1
    ·subst ie;cases neg<;>simp
    ·by_cases fc:mode=2
     ·subst fc;cases neg<;>simp
     ·simp[ie,fc,iS]
  ·dsimp only;by_cases h:(mode=3\/(mode=1/\neg=false)\/(mode=2/\neg=true))
   ·rw[bc h,if_pos h];exact aP (Hx (by decide) (by decide)) rfl
   ·rw[a5 h,if_neg h];rfl
 ·by_cases h:(mode=3\/(mode=1/\neg=false)\/(mode=2/\neg=true))
  ·rw[if_pos h,if_pos h]
  ·rw[if_neg h,if_neg h];exact aP (Hx (by decide) (by decide)) rfl
theorem auM {neg more:Bool} {M:Nat} {e mode:Int} (mO:0<M) (aQ:-1074<cQ M e):4503599627370496<=(if cQ M e<=e then M*2^(e-cQ M e).toNat else jW neg M (cQ M e-e).toNat more mode):=by
 obtain⟨FJ,j0⟩:=Er mO;have Px:=uD mO;have r1:cQ M e=e+a7 M-53:=(by unfold cQ at*;omega);have aI:(2:Nat)^52=4503599627370496:=(by decide);split
 ·rename_i h;have R:2^(a7 M-1)*2^(e-cQ M e).toNat<=M*2^(e-cQ M e).toNat:=jT _ FJ;rw[<-lR] at R;have ae:2^52<=2^(a7 M-1+(e-cQ M e).toNat):=uw (by decide) (by omega);omega
 ·rename_i h;have R:2^52<=M/2^(cQ M e-e).toNat:=by
   rw[In (mD _),<-lR];exact eu (uw (by decide) (by omega)) FJ
  unfold jW;split
  ·omega
  ·split<;>omega
theorem atg {neg more:Bool} {M:Nat} {e mode:Int} (bC:a7 M<=800000) (mO:0<M) (J:-500000<=e) (R:e<=500000) (alJ:more=true->54<=a7 M):J9 (neg,bf (M:Int),e,more,mode,())=some (ot neg M e more mode,()):=by
 have Px:=uD mO;have fb:=S8 (neg:=neg) (more:=more) (mode:=mode) (e:=e) mO;have kW:=auM (neg:=neg) (more:=more) (mode:=mode) (e:=e) mO;have CJ:ot neg M e more mode=sj neg (if cQ M e<=e then M*2^(e-cQ M e).toNat else jW neg M (cQ M e-e).toNat more mode) (cQ M e) mode:=(by unfold ot;split<;>rfl);have tq:cQ M e=if(-1074:Int)>e+a7 M-1-52 then-1074 else e+a7 M-1-52:=by unfold cQ;split<;>omega
 have tn:-1074<=cQ M e:=(by unfold cQ;omega);have r1:cQ M e<=1400000:=(by unfold cQ;omega);have tp:-1000000<=cQ M e-e:=(by unfold cQ;omega);have r2:cQ M e-e<=1000000:=(by unfold cQ;omega);unfold J9;refine aP (Sk (z:=(M:Int)) (by rw[fi];omega)) ?_;rw[fi];dsimp only;rw[cp (x:=e+(a7 M:Int)) (by omega) (by omega),cp (x:=e+(a7 M:Int)-1) (by omega) (by omega),cp (x:=e+(a7 M:Int)-1-52) (by omega) (by omega),<-tq,CJ,cB];split
 ·rename_i K0;have awQ:972<=cQ M e:=(by unfold cQ;omega);have kW:=kW (by omega);refine aP Sv ?_;clear tq CJ tp r2;generalize(if cQ M e<=e then M*2^(e-cQ M e).toNat else jW neg M (cQ M e-e).toNat more mode)=n at*;unfold sj;rw[if_neg (by omega)];by_cases c4:n=9007199254740992
  ·rw[if_pos c4,if_pos (by omega)]
  ·rw[if_neg c4,if_pos (by omega)]
 rename_i K0;refine aP (y:=(bf ((if cQ M e<=e then M*2^(e-cQ M e).toNat else jW neg M (cQ M e-e).toNat more mode:Nat):Int),())) ?_ ?_
 ·rw[cB];split
  ·rename_i g;obtain⟨k,ac⟩:∃k:Nat,cQ M e-e=k:=⟨(cQ M e-e).toNat,by omega⟩;rw[cp (x:=cQ M e-e) (by omega) (by omega),ac,Int.toNat_natCast];refine aP (asQ bC (by omega)) ?_;dsimp only;by_cases k0:cQ M e<=e
   ·have alw:k=0:=(by omega);have ao:more=false:=by
     cases more
     ·rfl
     ·have:=alJ rfl;exfalso;unfold cQ at*;omega
    rw[if_pos k0,alw];unfold jW;rw[if_pos ⟨by rw[Nat.pow_zero,Nat.mod_one],ao⟩,show(e-cQ M e).toNat=0 by omega];simp
   ·rw[if_neg k0]
  ·rename_i g;obtain⟨k,ac⟩:∃k:Nat,e-cQ M e=k:=⟨(e-cQ M e).toNat,by omega⟩;rw[cp (x:=e-cQ M e) (by omega) (by omega),if_pos (by omega),ac,d4];refine aP (aa3 (z:=(M:Int)) (n:=k) (by rw[fi];omega) (by omega)) ?_;rw[qe,oo]
 generalize(if cQ M e<=e then M*2^(e-cQ M e).toNat else jW neg M (cQ M e-e).toNat more mode)=n at*;generalize cQ M e=u at*;dsimp only;refine aP (as4 (z:=(n:Int)) (by omega) (by omega)) ?_;dsimp only;rw[e5];unfold sj;by_cases c4:n=9007199254740992
 ·rw[bc (show(n:Int)=9007199254740992 by omega),if_neg (show¬n<4503599627370496 by omega),if_pos c4];refine aP (y:=(u+1,4503599627370496,())) ?_ ?_
  ·show some (bR u,4503599627370496,())=_;unfold bR;rw[wrap64 (by omega) (by omega)]
  dsimp only;rw[cp (x:=u+1+53) (by omega) (by omega),bc (show(4503599627370496:Int)>=4503599627370496 by omega)];by_cases g:u+1+1075>=2047
  ·rw[if_pos g];refine aP (y:=.inr (tI neg mode,())) ?_ rfl;refine aP (y:=(true,())) ?_ (aP Sv rfl);rw[bc (show u+1+53>1024 by omega)];rfl
  ·rw[if_neg g];refine aP (y:=.inr (ox neg ((u+1+1075)*4503599627370496),())) ?_ rfl;refine aP (y:=(false,())) ?_ ?_
   ·rw[a5 (show¬u+1+53>1024 by omega)];rfl
   dsimp only;rw[cp (x:=u+1+1075) (by omega) (by omega),dT (x:=u+1+1075) (by omega) (by omega),p2 (by decide) (by decide),show(2:Int)^(52:Int).toNat=4503599627370496 from rfl];have aC:bo (aY (4503599627370496-4503599627370496))=0:=(by rw[cp (by omega) (by omega),dT (by omega) (by omega)];omega);have aV:(u+1+1075)*4503599627370496 %18446744073709551616=(u+1+1075)*4503599627370496:=(by omega);rw[aC,aV];show((uN (neg,fr IntKind.u64 ((u+1+1075)*4503599627370496) 0,())).bind _)=_;rw[Hh,o5 52 (by decide) (by decide) (by omega) (by decide) (by omega) (by omega),Int.zero_add];exact aP (Hx (by omega) (by omega)) rfl
 ·rw[a5 (show¬(n:Int)=9007199254740992 by omega)];refine aP (y:=(u,(n:Int),())) rfl ?_;dsimp only;rw[cp (x:=u+53) (by omega) (by omega)];by_cases cd:n<4503599627370496
  ·rw[a5 (show¬((n:Int)>=4503599627370496) by omega),if_pos cd,dT (x:=(n:Int)) (by omega) (by omega)];refine aP (y:=.inl ()) ?_ ?_
   ·exact aP rfl rfl
   ·exact aP (Hx (by omega) (by omega)) rfl
  ·rw[bc (show((n:Int)>=4503599627370496) by omega),if_neg cd,if_neg c4];by_cases g:u+1075>=2047
   ·rw[if_pos g];refine aP (y:=.inr (tI neg mode,())) ?_ rfl;refine aP (y:=(true,())) ?_ (aP Sv rfl);rw[bc (show u+53>1024 by omega)];rfl
   ·rw[if_neg g];refine aP (y:=.inr (ox neg ((u+1075)*4503599627370496+((n:Int)-4503599627370496)),())) ?_ rfl;refine aP (y:=(false,())) ?_ ?_
    ·rw[a5 (show¬u+53>1024 by omega)];rfl
    dsimp only;rw[cp (x:=u+1075) (by omega) (by omega),dT (x:=u+1075) (by omega) (by omega),p2 (by decide) (by decide),show(2:Int)^(52:Int).toNat=4503599627370496 from rfl];have aC:bo (aY ((n:Int)-4503599627370496))=(n:Int)-4503599627370496:=(by rw[cp (by omega) (by omega),dT (by omega) (by omega)]);have aV:(u+1075)*4503599627370496 %18446744073709551616=(u+1075)*4503599627370496:=(by omega);rw[aC,aV];show((uN (neg,fr IntKind.u64 ((u+1075)*4503599627370496) ((n:Int)-4503599627370496),())).bind _)=_;rw[Hh,o5 52 (by omega) (by omega) (by omega) (by omega) (by omega) (by omega)];refine aP (Hx (by omega) (by omega)) ?_;dsimp only;congr 4;omega
theorem Ub {f:Int} (aF:eD f):ec IntKind.u64 f 52=some (f/4503599627370496)/\eg IntKind.u64 (f/4503599627370496) 2047=dD f/\eg IntKind.u64 f 4503599627370495=g9 f:=by
 have J:=aF.1;have R:=aF.2;refine⟨?_,?_,?_⟩
 ·rw[yi (by decide) (by decide)];rfl
 ·rw[wN 11 (by omega) (by omega) 2047 (by decide) (by decide)];rfl
 ·rw[wN 52 (by omega) (by omega) 4503599627370495 (by decide) (by decide)];rfl
theorem Ss {f:Int} (aF:eD f):Ce (f,())=some (!decide (dD f=2047),()):=by obtain⟨cq,dv,a3⟩:=Ub aF;unfold Ce;refine aP cq ?_;rw[dv,ew]
theorem as5 {f:Int} (aF:eD f):J7 (f,())=some (decide (9223372036854775808<=f),()):=by unfold J7;dsimp only;rw[UE aF]
end Go.lP
end
