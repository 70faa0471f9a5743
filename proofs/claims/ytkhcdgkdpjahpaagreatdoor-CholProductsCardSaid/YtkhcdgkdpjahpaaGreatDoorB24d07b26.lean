/-
  Parts of the proof: Pa1, Pl2, Pl3, Pl5, Th1, Pl6, Pl7, Pl8, Pl9, Pl10, Pl12, ThT, Pa2, Pa3, Pa4, Pa5, Pa6, Pa7, Pa8, Pa9, Pa10, Pa11, Pa12, Pa13, Pa14, Pa15, Pa16, Pa17, Pa18, Pa19, Pa20, Pa21, Pa22, Pa23, Pa24, Pa25, Pa26: the framework (Fw), pure forms (Dn), plain laws (Pl, Th), calls of functions (Ok).
-/
import Derived.Test.YtkhcdgkdpjahpaaGreatDoorB895ba042

set_option linter.all false
noncomputable section
namespace Go.i9
variable{a c g:Nat}{b e r:Int}{d f:cZ}{h n:cT}{i o:Bool}{j:cO}{k q:Type}{l:Nat->Nat->Prop}{m:Prop}{p:cL}{s:(cI×Int×Int×aQ×Unit)->Prop}{t:Nat->Prop}{u:(cI×Int×aQ×Unit)->Prop}
def aD (a:Nat):Int:=4294967296^a
def ae:cZ->Int
 |[]=>0
 |x::a=>x+4294967296*ae a
def aI (b:cZ):Prop:=∀a∈b,0<=a/\a<4294967296
theorem aI.nil:aI []:=λ_ a=>by cases a
theorem aI.cons:aI (b::d)↔(0<=b/\b<4294967296)/\aI d:=by
 constructor
 ·exactλe=>⟨e b (jI ..),λc a=>e c (e2 _ a)⟩
 rintro⟨f,g⟩ c a;rcases dh.1 a with rfl|a
 ·exact f
 exact g c a
theorem aI.append:aI (d++f)↔aI d/\aI f:=by
 constructor
 ·exactλc=>⟨λb a=>c b (mO _ a),λb a=>c b (k2 _ a)⟩
 rintro⟨e,g⟩ b a;rcases dO.1 a with a|a
 ·exact e b a
 exact g b a
theorem aI.snoc (a:aI d) (c:0<=b) (e:b<4294967296):aI (d++[b]):=
 aI.append.2 ⟨a,aI.cons.2 ⟨⟨c,e⟩,aI.nil⟩⟩
theorem aI.take {a:cZ} (b:aI a) (d:Nat):aI (a.take d):=λe c=>b e (List.mem_of_mem_take c)
theorem aI.drop {a:cZ} (b:aI a) (d:Nat):aI (a.drop d):=λe c=>b e (List.mem_of_mem_drop c)
theorem aI.kb (b:Nat):aI (List.replicate b (0:Int)):=λc a=>by obtain⟨_,rfl⟩:=List.mem_replicate.1 a;exact⟨lZ _,aa⟩
theorem aI.set {c:cZ} (d:aI c) {g:Nat} {b:Int} (e:0<=b) (f:b<4294967296):aI (c.set g b):=λh a=>by
 rcases List.mem_or_eq_of_mem_set a with a|rfl
 ·exact d h a
 exact⟨e,f⟩
theorem aI.get (a:aI d) {n:Nat} (b:n<d.length):0<=d[n]/\d[n]<4294967296:=a _ (bQ b)
theorem dV (a:Nat):0<aD a:=mN aa
theorem ga (a:Nat):aD (a+1)=4294967296*aD a:=by unfold aD;rw[Int.pow_succ,gW]
theorem rm (a b:Nat):aD (a+b)=aD a*aD b:=jb ..
theorem vj:aD 0=1:=rfl
theorem j8 (a b:cZ):ae (a++b)=ae a+aD a.length*ae b:=by
 induction a with
 |nil=>simp[ae,vj]
 |cons d a c=>
  simp only[jd,ae,hU,ga,c];grind
theorem ox (a:cZ) (b:Int):ae (a++[b])=ae a+aD a.length*b:=by rw[j8];simp[ae]
theorem dx {l:cZ} (a:aI l):0<=ae l:=by
 induction l with
 |nil=>exact lZ _
 |cons c l b=>
  have a:=aI.cons.1 a;have:=b a.2;simp only[ae];omega
theorem fb (a:aI d):ae d<aD d.length:=by
 induction d with
 |nil=>decide
 |cons c d b=>
  have a:=aI.cons.1 a;have:=b a.2;simp only[ae,hU,ga];omega
theorem fX (b:a<d.length):ae (d.take (a+1))=ae (d.take a)+aD a*d[a]:=by rw[hq,bo b];show ae (d.take a++[d[a]])=_;rw[ox,dX,fR U]
theorem mL (b:cZ) (a:Nat) (c:a<=b.length):ae b=ae (b.take a)+aD a*ae (b.drop a):=by
 conv=>lhs;rw[<-kE a b]
 rw[j8,dX,fR c]
theorem j9 (b:a<d.length):ae (d.drop a)=d[a]+4294967296*ae (d.drop (a+1)):=by rw[Cf b];rfl
theorem nu (a:Nat):ae (List.replicate a (0:Int))=0:=by
 induction a with
 |zero=>rfl
 |succ a b=>simp only[List.replicate_succ,ae,b];rfl
theorem kW (b:a<d.length) (c:Int):ae (d.set a c)=ae d+aD a*(c-d[a]):=by
 induction d generalizing a with
 |nil=>simp at b
 |cons f d e=>
  cases a with
  |zero=>simp only[List.set_cons_zero,ae,vj,List.getElem_cons_zero];grind
  |succ a=>
   simp only[List.set_cons_succ,ae,List.getElem_cons_succ,ga];rw[e (by simpa using b)];grind
def sg:Nat->Nat->cZ
 |0,_=>[]
 |f+1,a=>if a=0 then[] else((a %4294967296:Nat):Int)::sg f (a/4294967296)
def bL (a:Nat):cZ:=sg (Nat.log2 a+1) a
def dp (b:cZ):Prop:=∀a,b.getLast?=some a->a≠0
theorem S3:∀{a n:Nat},n<2^a->aI (sg a n)/\ae (sg a n)=n/\dp (sg a n):=by
 intro a
 induction a with
 |zero=>
  intro n b;obtain rfl:n=0:=(by simpa using b);exact⟨aI.nil,rfl,λf b=>by cases b⟩
 |succ a j=>
  intro n b;unfold sg;split
  ·rename_i h;subst h;exact⟨aI.nil,rfl,λf b=>by cases b⟩
  rename_i k;obtain⟨i,d,g⟩:=j (n:=n/4294967296) (by rw[jg] at b;omega);refine⟨aI.cons.2 ⟨⟨U,U⟩,i⟩,?_,?_⟩
  ·simp only[ae,d];omega
  intro f c;cases e:sg a (n/4294967296) with
  |nil=>
   rw[e] at c d;simp only[ae] at d;simp only[List.getLast?_singleton,bI] at c;omega
  |cons m l=>
   rw[e,List.getLast?_cons_cons] at c;rw[e] at g;exact g f c
theorem Dd (a:Nat):aI (bL a)/\ae (bL a)=a/\dp (bL a):=S3 Nat.lt_log2_self
theorem iA (a:Nat):aI (bL a):=(Dd a).1
theorem jS (a:Nat):ae (bL a)=a:=(Dd a).2.1
theorem mm (a:Nat):dp (bL a):=(Dd a).2.2
theorem dp.tail (c:dp (b::d)):dp d:=λe a=>by
 cases d with
 |nil=>cases a
 |cons f d=>exact c e (by rw[List.getLast?_cons_cons];exact a)
theorem dp.zero (e:aI d) (b:dp d) (c:ae d=0):d=[]:=by
 induction d with
 |nil=>rfl
 |cons h d g=>
  obtain⟨⟨i,j⟩,a⟩:=aI.cons.1 e;have k:=dx a;simp only[ae] at c;have f:h=0:=U;have:=g a b.tail U;subst this;subst f;exact absurd rfl (b 0 rfl)
theorem dp.uniq:∀{a b:cZ},aI a->aI b->dp a->dp b->ae a=ae b->a=b
 |[],b,_,e,_,g,c=>(dp.zero e g (by rw[<-c];rfl)).symm
 |a,[],d,_,f,_,c=>dp.zero d f (by rw[c];rfl)
 |x::a,k::b,d,e,f,g,c=>by obtain⟨⟨l,m⟩,h⟩:=aI.cons.1 d;obtain⟨⟨n,o⟩,i⟩:=aI.cons.1 e;simp only[ae] at c;have j:x=k:=U;have:=dp.uniq h i f.tail g.tail U;rw[j,this]
theorem S6 (b:aI d) (c:dp d) (e:ae d=a):d=bL a:=
 dp.uniq b (iA a) c (mm a) (by rw[e,jS])
theorem dp.eq (a:aI d) (b:dp d):d=bL (ae d).toNat:=
 S6 a b (by have:=dx a;omega)
theorem dp.low (b:aI d) (f:dp d) (a:d≠[]):aD (d.length-1)<=ae d:=by have c:=List.dropLast_concat_getLast a;have i:=f (d.getLast a) (List.getLast?_eq_some_getLast a);have j:=b _ (List.getLast_mem a);rw[<-c,ox];have k:=dx (l:=d.dropLast) (λh g=>b h (List.dropLast_subset _ g));have e:1<=d.getLast a:=U;have m:=hT e (dL (dV d.dropLast.length));simp only[lA,List.length_singleton,tr];omega
theorem YI (e:a<c):aD a<aD c:=by obtain⟨b,rfl⟩:∃b,c=a+(b+1):=⟨c-a-1,U⟩;rw[rm,ga];have f:=dV b;have d:=dV a;have g:1*aD a<(4294967296*aD b)*aD a:=pL U d;grind
theorem nl {m n:Nat} (b:m<=n):aD m<=aD n:=by
 rcases bp m n with a|a
 ·exact dL (YI a)
 obtain rfl:m=n:=U;exact lZ _
theorem o7 {n k:Nat} (d:(n:Int)<aD k):(bL n).length<=k:=by
 by_cases b:bL n=[]
 ·rw[b];exact dQ _
 have c:=dp.low (iA n) (mm n) b;rw[jS] at c;rcases bp k (bL n).length with a|a
 ·have:=nl (m:=k) (n:=(bL n).length-1) U;omega
 exact a
theorem HH (a:Nat):(a:Int)<aD (bL a).length:=by have:=fb (iA a);rwa[jS] at this
theorem De:bL 0=[]:=rfl
theorem Dc:bL a=[]↔a=0:=by
 constructor
 ·intro b;have:=jS a;rw[b] at this;simp only[ae] at this;omega
 rintro rfl;rfl
def fy (a:cZ):cZ:=bL (ae a).toNat
theorem Mg (g:aI d) (h:a<=d.length) (f:∀b,a<=b->(j:b<d.length)->d[b]=0) (i:dp (d.take a)):d.take a=fy d:=by have c:ae d=ae (d.take a):=(by have e:d.drop a=List.replicate (d.length-a) 0:=(by refine List.ext_getElem ab λb c e=>?_;rw[List.getElem_drop,List.getElem_replicate];exact f _ U _);rw[mL d a h,e,nu];simp);rw[fy,c];exact dp.eq (g.take a) i
theorem Fv (a:cZ):aI (fy a):=iA _
theorem Mf (a:cZ):dp (fy a):=mm _
theorem Fw (a:aI d):ae (fy d)=ae d:=by have:=dx a;rw[fy,jS];omega
theorem Me (a:aI d):(fy d).length<=d.length:=by have b:=fb a;have:=dx a;exact o7 U
theorem T4 {b c:List k} (f:b.length=c.length) (e:∀a,a<b.length->b[a]?=c[a]?):b=c:=by
 apply g9;intro a;rcases bp a b.length with d|d
 ·exact e a d
 rw[fc d,fc U]
theorem Cd (a c:cZ) (o:a.length<4611686018427387904):zK (a,c,())=some (a==c,()):=by
 rw[<-ac.eq_iff];unfold zK;simp only[ac.bS,ac.bT,ac.af];refine⟨λd=>?_,λd=>?_⟩
 ·simp at d;have:a≠c:=λf=>d (by rw[f]);simp[this]
 simp at d;have m:a.length=c.length:=U;refine ac.for (i0:=0) a.length (λe _=>∀b,b<e->a[b]?=c[b]?) rfl ab (dQ _) ?_ ?_
 ·intro e n _ k g;simp only[ac.bS,ac.bT,ac.af,ac.hB];refine⟨λ_=>⟨k,U,λl=>?_,λj=>?_⟩,λh=>?_⟩
  ·simp at l;have:a≠c:=λf=>l (by simp[f]);simp[this]
  ·refine⟨fo U,λb p=>?_⟩;rcases bp b e with i|i
   ·exact g b i
   obtain rfl:b=e:=U;simp at j;rw[bo k,bo U,j]
  simp at h;omega
 intro n g;simp only[ac.bS,ac.bT,ac.af];refine⟨λh=>by simp at h,λ_=>?_⟩;simp[T4 m g]
theorem mH {b:List k} (c:a<b.length):b.take a++[b[a]]=b.take (a+1):=by rw[hq,bo c];rfl
theorem EM:d.Pairwise (· < ·)↔∀c,(e:c+1<d.length)->d[c]<d[c+1]:=by
 constructor
 ·intro e c k;exact(gu.1 e) c (c+1) U k U
 intro e;rw[gu];have m:∀b a (f:a<d.length) (g:a+b+1<d.length),d[a]<d[a+b+1]:=by
  intro b
  induction b with
  |zero=>intro a f g;exact e a g
  |succ b l=>
   intro a f g;have i:=l a f U;have j:=e (a+b+1) U;exact Int.lt_trans i j
 intro a h f g n;obtain⟨b,rfl⟩:∃b,h=a+b+1:=⟨h-a-1,U⟩;exact m b a f g
theorem MM (b:cZ) (r:b.length<4611686018427387904):zI (b,())=some (decide (b.Pairwise (· < ·)),()):=by
 rw[<-ac.eq_iff];unfold zI;simp only[ac.bT];by_cases k:b.length=0
 ·have:b=[]:=Cg.1 k;subst this;refine ac.loop (λo=>o=(1,())) (λ_=>0) rfl ?_;rintro _ rfl;simp[ac.af]
 refine ac.for (i0:=1) b.length (λc _=>∀a,(j:a+1<b.length)->a+1<c->b[a]<b[a+1]) rfl (λa _ j=>by omega) U ?_ ?_
 ·rintro c _ p l e;simp only[ac.bS,ac.bT,ac.af,ac.hB];have i:IntKind.i64.wrap ((c:Int)-1)=((c-1:Nat):Int):=(by rw[wrap64 U U];omega);rw[i];refine⟨λ_=>⟨l,?_⟩,λf=>?_⟩
  ·rw[ac.hB];refine⟨U,?_⟩;refine⟨λm=>?_,λh=>⟨fo U,λa d q=>?_⟩⟩
   ·have:¬b.Pairwise (· < ·):=λn=>by
     have:=EM.1 n (c-1) U;simp only[(U:c-1+1=c)] at this;simp at m;omega
    simp[this]
   rcases bp (a+1) c with g|g
   ·exact e a d g
   obtain rfl:c=a+1:=U;simp at h;exact h
  simp at f;omega
 intro s e;simp only[ac.bS,ac.bT,ac.af];refine⟨λf=>by simp at f,λ_=>?_⟩;have:b.Pairwise (· < ·):=EM.2 (λa d=>e a d d);simp[this]
def mark (a:cV) (c:cZ):cV:=c.foldl (λa b=>a.set b.toNat true) a
section
def rl (a:cZ) (c:Int):Prop:=a.Pairwise (· < ·)/\∀b∈a,0<=b/\b<c
theorem ac.count {l:k->Option (k⊕q)} {i:q->Prop} (d:k->Int) (c:Nat) (e:Nat->k->Prop) {i0:Nat} {m:k} (v:d m=(i0:Int)) (s:e i0 m) (p:i0<=c) (x:∀a b,i0<=a->a<c->d b=(a:Int)->e a b->ac (l b) (λ|.inl h=>d h=((a+1:Nat):Int)/\e (a+1) h|.inr g=>i g)) (u:∀b,d b=(c:Int)->e c b->ac (l b) (λ|.inl _=>False|.inr g=>i g)):ac (i9.loop l m) i:=by
 refine ac.loop (λb=>∃a:Nat,i0<=a/\a<=c/\d b=(a:Int)/\e a b) (λb=>c-(d b).toNat) ⟨i0,a8 _,p,v,s⟩ ?_;rintro b ⟨a,w,p,j,r⟩;rcases bp a c with o|o
 ·refine(x a b w o j r).mono ?_;rintro(h|g) f
  ·obtain⟨n,t⟩:=f;exact⟨⟨a+1,U,U,n,t⟩,by rw[j,n];simp;omega⟩
  exact f
 obtain rfl:a=c:=U;refine(u b j r).mono ?_;rintro(h|g) f
 ·exact f.elim
 exact f
open Classical in
theorem RO (b:cZ) (g:Int) (D:b.length<4611686018427387904):ze (b,g,())=some (decide (rl b g),()):=by
 rw[<-ac.eq_iff];unfold ze;simp only[ac.bT];refine ac.count (λr=>r.2.1) b.length (λa r=>r.1=(if a=0 then-1 else b.getD (a-1) 0)/\(b.take a).Pairwise (· < ·)/\∀f∈b.take a,0<=f/\f<g) (i0:=0) rfl ⟨rfl,ab,ab⟩ (dQ _) ?_ ?_
 ·rintro a ⟨m,A,_⟩ _ e h ⟨j,k,l⟩;simp only at h j;subst h;simp only[ac.bS,ac.bT,ac.af,ac.hB];have z:∀f∈b.take a,f<=m:=by
   intro f d;rw[j];obtain⟨q,y,rfl⟩:=ha.1 d;simp only[dX] at y;have x:a≠0:=U;rw[if_neg x];simp only[vv,List.getD,bo (U:a-1<b.length),pW];rcases bp q (a-1) with c|c
   ·have:=(gu.1 k) q (a-1) (by simp;omega) (by simp;omega) c;simp only[vv] at this;omega
   have:q=a-1:=U;subst this;exact lZ _
  have E:-1<=m:=by
   rw[j];by_cases i:a=0
   ·rw[if_pos i];exact lZ _
   rw[if_neg i];simp only[List.getD,bo (U:a-1<b.length),pW];have:=l (b[a-1]) (ha.2 ⟨a-1,by simp;omega,ab⟩);omega
  have t:(b[a]<=m\/g<=b[a])->¬rl b g:=by
   rintro c ⟨B,u⟩;rcases c with c|c
   ·rw[j] at c;by_cases i:a=0
    ·rw[if_pos i] at c;have:=u _ (bQ e);omega
    rw[if_neg i] at c;simp only[List.getD,bo (U:a-1<b.length),pW] at c;have:=(gu.1 B) (a-1) a U e U;omega
   have:=u _ (bQ e);omega
  refine⟨λ_=>⟨e,λn=>⟨λo=>?_,λo=>?_⟩,λn=>?_⟩,λp=>by simp at p;omega⟩
  ·have:=t (.inr (by simpa using o));simp[this]
  ·simp at n o;refine⟨fo U,?_,?_,?_⟩
   ·simp[List.getD,e]
   ·rw[<-mH e,List.pairwise_append];refine⟨k,ab,λv w C s=>?_⟩;simp only[dP] at s;subst s;have:=z v w;omega
   rw[<-mH e];intro f d;rcases dO.1 d with d|d
   ·exact l f d
   simp only[dP] at d;subst d;omega
  have:=t (.inl (by simpa using n));simp[this]
 rintro⟨m,A,_⟩ h ⟨j,k,l⟩;simp only at h;subst h;simp only[ac.bS,ac.af];refine⟨λp=>by simp at p,λ_=>?_⟩;rw[oK] at k l;have:rl b g:=⟨k,l⟩;simp[this]
theorem FU (a b:Int):rV (a,b,())=some (decide (a<b),()):=by unfold rV qe;simp
theorem MG (a:Int) (b:0<=a) (c:a<18446744073709551616):IntKind.u64.wrap a=a:=by unfold IntKind.wrap;rw[if_neg (by simp[IntKind.signed])];show a %18446744073709551616=a;omega
theorem MP (d:cZ) (f:Int) (F:d.length<4611686018427387904) (p:d.Pairwise (· < ·)):ac (zy (d,f,())) (λA=>A.2.1=decide (f∈d)):=by
 unfold zy;simp only[ac.bT];refine ac.mono (P:=λz=>∃a:Nat,z.1=(a:Int)/\a<=d.length/\(∀b,(e:b<d.length)->b<a->d[b]<f)/\(∀b,(e:b<d.length)->a<=b->f<=d[b])) ?_ ?_
 ·refine ac.loop (λn=>∃a c:Nat,n.1=(a:Int)/\n.2.1=(c:Int)/\a<=c/\c<=d.length/\(∀b,(e:b<d.length)->b<a->d[b]<f)/\(∀b,(e:b<d.length)->c<=b->f<=d[b])) (λn=>(n.2.1-n.1).toNat) ⟨0,d.length,rfl,rfl,dQ _,a8 _,λb _ e=>by omega,λb j k=>by omega⟩ ?_;rintro⟨y,G,_⟩ ⟨a,c,rfl,rfl,E,r,j,k⟩;simp only[ac.bS,ac.bT,ac.af];refine⟨λi=>?_,λl=>?_⟩
  ·have i:a<c:=(by simpa using i);have aj:IntKind.i64.wrap ((a:Int)+c)=(a:Int)+c:=wrap64 U U;rw[aj,MG _ U U];have x:dk IntKind.u64 ((a:Int)+c) 1=some (((a+c)/2:Nat):Int):=by
    unfold dk;rw[if_pos U];congr 1;show((a:Int)+c).fdiv (2^min 1 64)=_;rw[show(2:Int)^min 1 64=2 from rfl,ye _ U];omega
   rw[x];simp only[ac.af];have t:IntKind.i64.wrap (((a+c)/2:Nat):Int)=(((a+c)/2:Nat):Int):=wrap64 U U;rw[t,ac.hB];refine⟨U,?_⟩;rw[FU];simp only[ac.af,ac.bS];have q:(a+c)/2<d.length:=U;refine⟨λg=>?_,λg=>?_⟩
   ·have g:d[(a+c)/2]<f:=(by simpa using g);rw[fo U];refine⟨⟨(a+c)/2+1,c,rfl,rfl,U,r,λb h v=>?_,k⟩,U⟩;rcases bp b ((a+c)/2) with e|e
    ·exact Int.lt_trans ((gu.1 p) b _ h q e) g
    have:b=(a+c)/2:=U;subst this;exact g
   have g:f<=d[(a+c)/2]:=(by simpa using g);refine⟨⟨a,(a+c)/2,rfl,rfl,U,U,j,λb h v=>?_⟩,U⟩;rcases bp ((a+c)/2) b with e|e
   ·have:=(gu.1 p) _ b q h e;omega
   have:b=(a+c)/2:=U;subst this;exact g
  have u:a=c:=(by have:¬a<c:=(by simpa using l);omega);subst u;exact⟨a,rfl,r,j,k⟩
 rintro⟨y,_⟩ ⟨a,rfl,D,j,k⟩;simp only;have s:(∀e:a<d.length,d[a]≠f)->f∉d:=by
  intro m w;obtain⟨b,h,rfl⟩:=ha.1 w;rcases l3 b a with e|e|e
  ·have:=j b h e;omega
  ·subst e;exact m h rfl
  have B:=k a U (a8 _);have C:=(gu.1 p) a b U h e;omega
 simp only[ac.bS,ac.bT,ac.af,ac.hB];refine⟨λi=>?_,λl=>?_⟩
 ·have i:a<d.length:=(by simpa using i);refine⟨i,λm=>?_,λo=>?_⟩
  ·have m:d[a]≠f:=(by simpa using m);refine⟨i,?_⟩;unfold zE;simp[ac.af];exact s (λ_=>m)
  have o:d[a]=f:=(by simpa using o);simp[<-o]
 have l:¬a<d.length:=(by simpa using l);simp;exact s (λe=>absurd e l)
structure eU (bO:cO):Prop where
 asc:∀v,(h:v<bO.length)->rl bO[v] bO.length
 Iu:∀v,(h:v<bO.length)->(v:Int)∉bO[v]
 sym:∀v,(h:v<bO.length)->∀w:Nat,(hw:w<bO.length)->(w:Int)∈bO[v]->(v:Int)∈bO[w]
open Classical in
def hy (a:cO):Int:=if 200<a.length then 6 else if eU a then 0 else 1
open Classical in
theorem DN (a:cO) (b:Nat) (d:Int) (g:b<a.length) (e:a[b].length<4611686018427387904) (f:a[b].Pairwise (· < ·)):tQ ((a,()),(b:Int),d,())=some (decide (d∈a[b]),()):=by rw[<-ac.eq_iff];unfold tQ;simp only[ac.bT,ac.hB];refine⟨g,(MP _ _ e f).mono ?_⟩;rintro⟨i,h,_⟩ c;simp only at c;rw[ac.af,c]
theorem FH (a:cO) (u:∀L∈a,L.length<4611686018427387904):vW ((a,()),())=some (hy a,()):=by
 classical
 rw[<-ac.eq_iff];unfold vW;simp only[ac.bS,ac.bT,ac.af];refine⟨λg=>?_,λg=>?_⟩
 ·have:200<a.length:=(by simp at g;omega);simp[hy,this]
 have z:¬200<a.length:=(by simp at g;omega);have y:¬eU a->(1:Int)=hy a:=λg=>(by simp[hy,z,g]);refine ac.mono (P:=λl=>(l=.inr (1,())/\¬eU a)\/(l=.inl ()/\∀c,(g:c<a.length)->rl a[c] a.length/\(c:Int)∉a[c])) ?_ ?_
 ·refine ac.for (i0:=0) a.length (λd _=>∀c,c<d->(g:c<a.length)->rl a[c] a.length/\(c:Int)∉a[c]) rfl (λc h=>by omega) (dQ _) ?_ ?_
  ·rintro d _ _ j p;simp only[ac.bS,ac.bT,ac.af,ac.hB];refine⟨λ_=>⟨j,?_⟩,λi=>by simp at i;omega⟩;rw[RO _ _ (u _ (bQ j))];simp only[ac.af];refine⟨λq=>?_,λq=>.inl ⟨trivial,λf=>?_⟩⟩
   ·have q:rl a[d] a.length:=(by simpa using q);rw[DN a d d j (u _ (bQ j)) q.1];simp only[ac.af,ac.bS];refine⟨λx=>.inl ⟨trivial,λf=>f.Iu d j (by simpa using x)⟩,λx=>⟨fo U,λc h C=>?_⟩⟩;rcases bp c d with n|n
    ·exact p c n C
    obtain rfl:c=d:=U;exact⟨q,by simpa using x⟩
   have:=f.asc d j;simp[this] at q
  intro A p;simp only[ac.bS,ac.af];exact⟨λi=>by simp at i,λ_=>.inr ⟨trivial,λc h=>p c h h⟩⟩
 rintro l (⟨rfl,f⟩|⟨rfl,t⟩)
 ·simp only[ac.af,y f]
 simp only[ac.bT];have F:(∀e,(g:e<a.length)->∀o∈a[e],∀b:Nat,o=(b:Int)->(k:b<a.length)->(e:Int)∈a[b])->eU a:=λg=>⟨λe f=>(t e f).1,λe f=>(t e f).2,λe f b k s=>g e f b s b rfl k⟩;refine ac.mono (P:=λl=>(l=.inr (1,())/\¬eU a)\/(l=.inl ()/\∀e,(g:e<a.length)->∀o∈a[e],∀b:Nat,o=(b:Int)->(k:b<a.length)->(e:Int)∈a[b])) ?_ ?_
 ·refine ac.for (i0:=0) a.length (λd _=>∀e,e<d->(g:e<a.length)->∀o∈a[e],∀b:Nat,o=(b:Int)->(k:b<a.length)->(e:Int)∈a[b]) rfl (λc h=>by omega) (dQ _) ?_ ?_
  ·rintro d _ _ j p;simp only[ac.bS,ac.bT,ac.hB];refine⟨λ_=>⟨j,?_⟩,λi=>by simp at i;omega⟩;have M:=u _ (bQ j);refine ac.mono (P:=λl=>(l=.inr (.inr (.inr (1,())))/\¬eU a)\/(l=.inl ()/\∀o∈a[d],∀b:Nat,o=(b:Int)->(k:b<a.length)->(d:Int)∈a[b])) ?_ ?_
   ·refine ac.for (i0:=0) a[d].length (λc _=>∀m,m<c->(g:m<a[d].length)->∀b:Nat,a[d][m]=(b:Int)->(k:b<a.length)->(d:Int)∈a[b]) rfl (λc h=>by omega) (dQ _) ?_ ?_
    ·rintro c _ _ h v;simp only[ac.bS,ac.bT,ac.hB];refine⟨λ_=>⟨h,?_⟩,λi=>by simp at i;omega⟩;have N:=(t d j).1.2 _ (bQ h);obtain⟨b,k⟩:∃b:Nat,a[d][c]=(b:Int):=⟨a[d][c].toNat,U⟩;have r:b<a.length:=U;rw[k,DN a b d r (u _ (bQ r)) (t b r).1.1];simp only[ac.af,ac.bS];refine⟨λE=>.inl ⟨trivial,λf=>?_⟩,λK=>⟨fo U,λm s D B H I=>?_⟩⟩
     ·have:=f.sym d j b r (k▸bQ h);simp[this] at E
     rcases bp m c with n|n
     ·exact v m n D B H I
     obtain rfl:m=c:=U;have:B=b:=U;subst this;simpa using K
    intro A v;simp only[ac.bS,ac.af];refine⟨λi=>by simp at i,λ_=>.inr ⟨trivial,λo J b k r=>?_⟩⟩;obtain⟨m,s,rfl⟩:=ha.1 J;exact v m s s b k r
   rintro l (⟨rfl,f⟩|⟨rfl,w⟩)
   ·simp only[ac.af];exact .inl ⟨trivial,f⟩
   simp only[ac.af];refine⟨fo U,λe f G=>?_⟩;rcases bp e d with n|n
   ·exact p e n G
   obtain rfl:e=d:=U;exact w
  intro A p;simp only[ac.bS,ac.af];exact⟨λi=>by simp at i,λ_=>.inr ⟨trivial,λc h=>p c h h⟩⟩
 rintro l (⟨rfl,f⟩|⟨rfl,w⟩)
 ·simp only[ac.af,y f]
 simp only[ac.af];simp[hy,z,F w]
end
section
inductive eN (A:Nat->Nat->Prop) (k:Nat):Nat->Nat->Prop
 |one {i j:Nat}:A i j->eN A k i j
 |step {i m j:Nat}:A i m->m<k->eN A k m j->eN A k i j
section
variable {A:Nat->Nat->Prop} {k:Nat}
theorem eN.trans (b:eN A k c a) (e:a<k) (d:eN A k a g):eN A k c g:=by
 induction b with
 |one b=>exact .step b e d
 |step b f _ h=>exact .step b f (h e d)
theorem eN.symm (f:∀d e,A d e->A e d) (b:eN A k a c):eN A k c a:=by
 induction b with
 |one b=>exact .one (f _ _ b)
 |step b g _ h=>exact h.trans g (.one (f _ _ b))
theorem eN.mono (f:k<=g) (b:eN A k a c):eN A g a c:=by
 induction b with
 |one b=>exact .one b
 |step b e _ d=>exact .step b U d
theorem eN.first (n:a<c) (j:eN A c a c):∃b,a<b/\b<=c/\eN A a a b/\(b=c\/eN A c b c):=by
 have o:∀{d f:Nat},eN A c d f->f=c->(d=a\/(d<a/\eN A a a d))->∃b,a<b/\b<=c/\eN A a a b/\(b=c\/eN A c b c):=by
  intro d f j
  induction j with
  |@one d f g=>
   intro h e;subst h;refine⟨f,n,a8 _,?_,.inl rfl⟩;rcases e with rfl|⟨e,i⟩
   ·exact .one g
   exact i.trans e (.one g)
  |@step d k f g p i m=>
   intro h e;have l:eN A a a k:=by
    rcases e with rfl|⟨e,i⟩
    ·exact .one g
    exact i.trans e (.one g)
   rcases l3 k a with hmu|hmu|hmu
   ·exact m h (.inr ⟨hmu,l⟩)
   ·exact m h (.inl hmu)
   subst h;exact⟨k,hmu,U,l,.inr i⟩
 exact o j rfl (.inl rfl)
def jG (A:Nat->Nat->Prop) (c a:Nat):Prop:=c<a/\eN A a c a/\∀b,c<b->b<a->¬eN A b c b
theorem jG.uniq {p:Nat} (b:jG A c p) (d:jG A c a):p=a:=by
 rcases l3 p a with e|f|e
 ·exact absurd b.2.1 (d.2.2 p b.1 e)
 ·exact f
 exact absurd d.2.1 (b.2.2 a d.1 e)
theorem jG.fill (b:jG A c a):eN A c c a:=by
 obtain⟨d,g,h,e,i⟩:=eN.first b.1 b.2.1;rcases bp d a with f|f
 ·exact absurd (e.mono U) (b.2.2 d g f)
 obtain rfl:d=a:=U;exact e
theorem KK (n:c<a) (o:eN A a c a):∃d,d<=a/\jG A c d:=by
 have:∀e,∀a,c<a->a<=e->eN A a c a->∃d,d<=a/\jG A c d:=by
  intro e
  induction e with
  |zero=>intro a i k;omega
  |succ e p=>
   intro a i k l;by_cases h:∃b,c<b/\b<a/\eN A b c b
   ·obtain⟨b,f,j,g⟩:=h;obtain⟨d,q,m⟩:=p b f U g;exact⟨d,U,m⟩
   exact⟨a,a8 _,i,l,λb f j g=>h ⟨b,f,j,g⟩⟩
 exact this a a n (a8 _) o
inductive gM (A:Nat->Nat->Prop):Nat->Nat->Prop
 |refl (u:Nat):gM A u u
 |up {u p v:Nat}:jG A u p->gM A p v->gM A u v
theorem gM.le (b:gM A a c):a<=c:=by
 induction b with
 |refl=>exact a8 _
 |up d _ e=>have:=d.1;omega
theorem gM.trans (d:gM A a c) (b:gM A c g):gM A a g:=by
 induction d with
 |refl=>exact b
 |up e _ f=>exact .up e (f b)
theorem gM.walk (g:gM A c a):c=a\/eN A a c a:=by
 induction g with
 |refl=>exact .inl rfl
 |@up c f a b i d=>
  right;have h:=i.le;rcases d with rfl|d
  ·exact b.2.1
  rcases bp f a with e|e
  ·exact(b.2.1.mono h).trans e d
  obtain rfl:f=a:=U;exact b.2.1
theorem RA (m:∀g h,A g h->A h g) (n:c<a) (k:eN A a c a):gM A c a:=by
 have:∀d,∀c,c<a->a-c<=d->eN A a c a->gM A c a:=by
  intro d
  induction d with
  |zero=>intro c e l;omega
  |succ d o=>
   intro c e l i;obtain⟨f,p,b⟩:=KK e i;rcases bp f a with j|j
   ·refine .up b (o f j (by have:=b.1;omega) ?_);exact((b.2.1.symm m).mono U).trans e i
   obtain rfl:f=a:=U;exact .up b (.refl _)
 exact this (a-c) c n (a8 _) k
theorem LB (f:∀h i,A h i->A i h) (l:a<c):eN A a a c↔∃k,A c k/\gM A k a:=by
 constructor
 ·intro d;have j:=d.symm f;cases j with
  |one b=>exact⟨a,b,.refl _⟩
  |@step _ t _ b n r=>exact⟨t,b,RA f n r⟩
 rintro⟨k,b,g⟩;have:∀{k a:Nat},gM A k a->a<c->(k<c->eN A k k c)->eN A a a c:=by
  intro k a d
  induction d with
  |refl=>intro m d;exact d m
  |@up u x y e w s=>
   intro q o;refine s q (λv=>?_);have p:u<c:=(by have:=e.1;omega);have b:=o p;have g:=e.fill;exact((g.symm f).mono (by have:=e.1;omega)).trans e.1 (b.mono (by have:=e.1;omega))
 exact this g l (λ_=>.one (f _ _ b))
end
end
section
def es (bO:cO) (a b:Nat):Prop:=∃c:a<bO.length,(b:Int)∈bO[a]
theorem es.lt {bO:cO} (f:eU bO) (d:es bO a c):a<bO.length/\c<bO.length:=by obtain⟨b,e⟩:=d;have:=(f.asc a b).2 _ e;exact⟨b,U⟩
theorem es.symm {bO:cO} (e:eU bO):∀a b,es bO a b->es bO b a:=λa b c=>by obtain⟨f,d⟩:=c.lt e;exact⟨d,e.sym a f b d c.2⟩
theorem es.ne {bO:cO} (e:eU bO) (b:es bO a c):a≠c:=λd=>by subst d;exact e.Iu a b.1 b.2
theorem eN.lt {bO:cO} (b:eU bO) {e c j:Nat} (a:eN (es bO) e c j):c<bO.length/\j<bO.length:=by
 induction a with
 |one a=>exact a.lt b
 |step a _ _ d=>exact⟨(a.lt b).1,d.2⟩
inductive gz (R:Nat->Nat->Prop):Nat->Nat->Prop
 |refl (u:Nat):gz R u u
 |step {u p v:Nat}:R u p->gz R p v->gz R u v
theorem gz.trans (b:gz l a c) (d:gz l c g):gz l a g:=by
 induction b with
 |refl=>exact d
 |step b _ e=>exact .step b (e d)
theorem gz.mono {d:Nat->Nat->Prop} (f:∀a e,l a e->d a e) (b:gz l a c):gz d a c:=by
 induction b with
 |refl=>exact .refl _
 |step b _ g=>exact .step (f _ _ b) g
theorem gz.comp (h:∀a b d,l a b->l a d->b=d) (i:gz l a c) (e:gz l a g):gz l c g\/gz l g c:=by
 induction i with
 |refl=>exact .inl e
 |@step a b c f k n=>
  cases e with
  |refl=>exact .inr (.step f k)
  |@step _ d _ j m=>
   obtain rfl:=h _ _ _ f j;exact n m
section
variable (bO:cO)
def oL (j:Nat) (T:Nat->Prop) (b c:Nat):Prop:=
 (c<j/\jG (es bO) b c)\/(c=j/\b<j/\(∀d,d<j->¬jG (es bO) b d)/\∃a,T a/\a<j/\es bO j a/\gM (es bO) a b)
def eT (en:cZ) (b a:Nat):Prop:=en[b]?=some (a:Int)
structure kf (j:Nat) (T:Nat->Prop) (en md:cZ):Prop where
 sB:en.length=bO.length
 IH:md.length=bO.length
 j5:∀u p,eT en u p↔(u<bO.length/\oL bO j T u p)
 none:∀(u:Nat) (x:Int),en[u]?=some x->x=-1\/∃p:Nat,x=(p:Int)
 yv:∀u:Nat,md[u]?=some (-1)↔en[u]?=some (-1)
 yw:∀(u:Nat) (x:Int),md[u]?=some x->x=-1\/∃a p:Nat,x=(a:Int)/\eT en u p/\gz (eT en) p a
variable {bO} {j:Nat} {T:Nat->Prop} {en md:cZ}
theorem oL.lt (d:oL bO j T c a):c<a/\a<=j:=by
 rcases d with⟨e,b⟩|⟨e,b,_⟩
 ·exact⟨b.1,U⟩
 omega
theorem kf.rc (d:kf bO j T en md) (f:gz (eT en) c a):c<=a/\(c=a\/a<=j):=by
 induction f with
 |refl=>exact⟨a8 _,.inl rfl⟩
 |@step c k a e i g=>
  have h:=((d.j5 _ _).1 e).2.lt;rcases g.2 with b|b
  ·exact⟨U,.inr U⟩
  exact⟨U,.inr b⟩
theorem kf.FA (b:kf bO j T en md) (f:gz (eT en) c a) (h:a<j):gM (es bO) c a:=by
 induction f with
 |refl=>exact .refl _
 |@step c k a e g i=>
  have m:k<=a:=(b.rc g).1;rcases((b.j5 _ _).1 e).2 with⟨_,d⟩|⟨l,_⟩
  ·exact .up d (i h)
  omega
theorem kf.Ms (d:kf bO j T en md) (g:gz (eT en) a j) (p:a<j):∃b,gM (es bO) a b/\b<j/\eT en b j:=by
 generalize i:j=l at g
 induction g with
 |refl=>omega
 |@step a h l c q k=>
  subst i;have o:=((d.j5 _ _).1 c).2.lt;rcases bp h j with f|f
  ·obtain⟨b,m,n,bX⟩:=k f rfl;rcases((d.j5 _ _).1 c).2 with⟨_,e⟩|⟨e,_⟩
   ·exact⟨b,.up e m,n,bX⟩
   omega
  obtain rfl:h=j:=U;exact⟨a,.refl _,U,c⟩
theorem E3 {j:Nat} (k:gM (es bO) g a) (h:gM (es bO) g c) (i:∀b,b<j->¬jG (es bO) a b) (n:∀b,b<j->¬jG (es bO) c b) (m:a<j) (q:c<j):a=c:=by
 induction k with
 |refl g=>
  cases h with
  |refl=>rfl
  |@up _ f _ d e=>exact absurd d (i f (by have:=e.le;omega))
 |@up g f a d e p=>
  cases h with
  |refl=>exact absurd d (n f (by have:=e.le;omega))
  |@up _ b _ l o=>
   obtain rfl:=d.uniq l;exact p o i m
theorem eT.ih {en:cZ}:∀d b c,eT en d b->eT en d c->b=c:=λd b c e a=>by unfold eT at e a;rw[e] at a;simp at a;omega
theorem gz.tail (d:gz l a c) (f:a≠c):∃b,l a b/\gz l b c:=by
 cases d with
 |refl=>exact absurd rfl f
 |step e g=>exact⟨_,e,g⟩
theorem UA (cv:eU bO) (ex:bO.length<=200) (e:kf bO j T en md) (d9:j<bO.length) (bl:es bO j a):ac (y5 ((en,(md,())),(a:Int),(j:Int),())) (λg=>kf bO j (λc=>T c\/c=a) g.1.1 g.1.2.1):=by
 have d1:a<bO.length:=(bl.lt cv).2;unfold y5;simp only[ac.bT]
 let a0:cZ->cZ->Prop:=λF p=>
  (∀b,p[b]?=md[b]?\/(p[b]?=some (j:Int)/\b<j/\gz (eT en) a b))/\p.length=bO.length/\
  ((F=en/\(gz (eT en) a j\/j<=a))\/∃g,g<j/\en[g]?=some (-1)/\gz (eT en) a g/\F=en.set g (j:Int)/\p[g]?=some (j:Int))
 refine ac.mono (P:=λn=>a0 n.1.1 n.1.2.1) ?_ ?_
 ·refine ac.loop (λu=>(u.1=-1/\a0 u.2.1.1 u.2.1.2.1)\/∃c:Nat,u.1=(c:Int)/\c<bO.length/\gz (eT en) a c/\u.2.1.1=en/\u.2.1.2.1.length=bO.length/\∀b,u.2.1.2.1[b]?=md[b]?\/(u.2.1.2.1[b]?=some (j:Int)/\b<j/\b<c/\gz (eT en) a b)) (λu=>if u.1=-1 then 0 else 1000-u.1.toNat) (.inr ⟨a,rfl,d1,.refl _,rfl,e.IH,λb=>.inl rfl⟩) ?_;rintro⟨fn,⟨F,p,_⟩,_⟩ ci;simp only at ci;simp only[ac.bT,ac.bS,ac.af];rcases ci with⟨rfl,cs⟩|⟨c,rfl,d0,h,rfl,W,G⟩
  ·exact⟨λX=>by simp at X,λ_=>cs⟩
  refine⟨λ_=>⟨λk=>?_,λk=>?_⟩,λX=>by simp at X⟩
  ·have k:c<j:=(by simpa using k);simp only[ac.n3,ac.nT,ac.xh,ac.af,de];have B:c<p.length:=U;have a4:p[c]?=md[c]?:=by
    rcases G c with d|⟨_,_,em,_⟩
    ·exact d
    omega
   refine⟨⟨U,B⟩,B,⟨U,B⟩,B,λx=>?_,λx=>?_⟩
   ·have x:p[c]=-1:=(by simpa using x);have J:F[c]?=some (-1):=(e.yv c).1 (by rw[<-a4,bo B,x]);have ce:c<F.length:=(by rw[e.sB];exact d0);refine⟨⟨U,ce⟩,ce,.inl ⟨x,?_,?_,.inr ⟨c,k,J,h,rfl,?_⟩⟩,?_⟩
    ·intro b;rcases l3 b c with l|l|l
     ·rw[lz U];exact(G b).imp id (λ⟨v,z,_,C⟩=>⟨v,z,C⟩)
     ·subst l;rw[kB B];exact .inr ⟨rfl,k,h⟩
     rw[lz U];exact(G b).imp id (λ⟨v,z,_,C⟩=>⟨v,z,C⟩)
    ·simp[W]
    ·rw[kB B]
    rw[if_pos x,if_neg U];omega
   have x:p[c]≠-1:=(by simpa using x);rcases e.yw c p[c] (by rw[<-a4,bo B]) with d|⟨v,f,M,L,N⟩
   ·exact absurd d x
   have eq:=((e.j5 _ _).1 L).2.lt;have d5:=e.rc N;have dl:v<bO.length:=by rcases d5.2 with d|d<;>omega
   refine⟨.inr ⟨v,M,dl,h.trans (.step L N),trivial,by simp[W],λb=>?_⟩,?_⟩
   ·rcases l3 b c with l|l|l
    ·rw[lz U];exact(G b).imp id (λ⟨S,z,C,V⟩=>⟨S,z,U,V⟩)
    ·subst l;rw[kB B];exact .inr ⟨rfl,k,U,h⟩
    rw[lz U];exact(G b).imp id (λ⟨S,z,C,V⟩=>⟨S,z,U,V⟩)
   rw[if_neg x,if_neg U,M];simp only[de];omega
  have k:j<=c:=(by simpa using k);refine⟨λb=>(G b).imp id (λ⟨v,z,_,C⟩=>⟨v,z,C⟩),W,.inl ⟨rfl,?_⟩⟩;rcases(e.rc h).2 with d|d
  ·exact .inr U
  obtain rfl:c=j:=U;exact .inl h
 rintro⟨⟨F,p,_⟩,_⟩ ⟨I,f2,a3⟩;simp only at I f2 a3;simp only[ac.af];rcases a3 with⟨rfl,h⟩|⟨g,O,J,h,rfl,ds⟩
 ·have d4:∀b f,b<bO.length->(oL bO j (λc=>T c\/c=a) b f↔oL bO j T b f):=by
   intro b f _;constructor
   ·rintro(q|⟨rfl,r,A,c,s,k,D,t⟩)
    ·exact .inl q
    rcases s with s|rfl
    ·exact .inr ⟨rfl,r,A,c,s,k,D,t⟩
    rcases h with h|h
    ·obtain⟨d8,ap,av,bX⟩:=e.Ms h k;have H:=((e.j5 _ _).1 bX).2;rcases H with⟨o,_⟩|H
     ·omega
     obtain rfl:=E3 ap t H.2.2.1 A av r;exact .inr H
    omega
   rintro(q|⟨rfl,r,A,c,s,k,D,t⟩)
   ·exact .inl q
   exact .inr ⟨rfl,r,A,c,.inl s,k,D,t⟩
  refine⟨e.sB,f2,λb f=>(e.j5 b f).trans (and_congr_right λl=>(d4 b f l).symm),e.none,λb=>?_,λb K m=>?_⟩
  ·rcases I b with d|⟨d,l,w⟩
   ·rw[d];exact e.yv b
   rw[d];constructor
   ·intro o;simp at o
   intro o;rcases h with h|h
   ·obtain⟨d8,ap,av,bX⟩:=e.Ms h (by have:=(e.rc w).1;omega);have t:=e.FA w l;have d7:∀n,n<j->¬jG (es bO) b n:=λn Z i=>by
     have:eT F b n:=(e.j5 b n).2 ⟨U,.inl ⟨Z,i⟩⟩;unfold eT at this;rw[o] at this;simp at this
    rcases((e.j5 _ _).1 bX).2 with⟨el,_⟩|H
    ·omega
    obtain rfl:=E3 ap t H.2.2.1 d7 av l;unfold eT at bX;rw[o] at bX;simp at bX
   have:=(e.rc w).1;omega
  rcases I b with d|⟨d,l,w⟩
  ·rw[d] at m;exact e.yw b K m
  rw[d] at m;cases m;right;have bs:a<j:=(by have:=(e.rc w).1;omega);rcases h with h|h
  ·rcases w.comp eT.ih h with E|E
   ·obtain⟨f,d2,d3⟩:=E.tail U;exact⟨j,f,rfl,d2,d3⟩
   have:=(e.rc E).1;omega
  omega
 have am:g<en.length:=by
  rcases bp g en.length with o|o
  ·exact o
  rw[fc o] at J;cases J
 have an:∀f,¬eT en g f:=λf i=>(by unfold eT at i;rw[J] at i;simp at i);have ad:∀n,n<j->¬jG (es bO) g n:=λn Z i=>an n ((e.j5 g n).2 ⟨by have:=e.sB;omega,.inl ⟨Z,i⟩⟩);have R:∀b f,eT en b f->eT (en.set g (j:Int)) b f:=λb f i=>(by have Y:b≠g:=λd=>an f (d▸i);unfold eT at i|-;rw[lz U];exact i);have Q:eT (en.set g (j:Int)) g j:=(by unfold eT;rw[kB am]);have bs:a<j:=(by have:=(e.rc h).1;omega);have co:∀b,gz (eT en) a b->b≠g->∃f,eT en b f/\gz (eT en) f g:=λb l Y=>by
  rcases l.comp eT.ih h with E|E
  ·exact E.tail Y
  obtain⟨f,i,_⟩:=E.tail (Ne.symm Y);exact absurd i (an f)
 refine⟨by simp[e.sB],f2,λb f=>?_,λb K m=>?_,λb=>?_,λb K m=>?_⟩
 ·by_cases y:b=g
  ·subst y;have d:eT (en.set b (j:Int)) b f↔f=j:=⟨λi=>eT.ih _ _ _ i Q,λd=>d▸Q⟩;rw[d];constructor
   ·rintro rfl;exact⟨by have:=e.sB;omega,.inr ⟨rfl,O,ad,a,.inr rfl,bs,bl,e.FA h O⟩⟩
   rintro⟨_,⟨q,r⟩|⟨q,_⟩⟩
   ·exact absurd r (ad f q)
   exact q
  have d:eT (en.set g (j:Int)) b f↔eT en b f:=(by unfold eT;rw[lz U]);rw[d,e.j5];refine and_congr_right λ_=>?_;constructor
  ·rintro(q|⟨rfl,r,A,c,s,k,D,t⟩)
   ·exact .inl q
   exact .inr ⟨rfl,r,A,c,.inl s,k,D,t⟩
  rintro(q|⟨rfl,r,A,c,s,k,D,t⟩)
  ·exact .inl q
  rcases s with s|rfl
  ·exact .inr ⟨rfl,r,A,c,s,k,D,t⟩
  exact absurd (E3 t (e.FA h O) A ad r O) y
 ·by_cases y:b=g
  ·subst y;rw[kB am] at m;cases m;exact .inr ⟨j,rfl⟩
  rw[lz U] at m;exact e.none b K m
 ·by_cases y:b=g
  ·subst y;rw[ds,kB am]
  rw[lz U];rcases I b with d|⟨d,l,w⟩
  ·rw[d];exact e.yv b
  rw[d];constructor
  ·intro o;simp at o
  intro o;obtain⟨f,i,_⟩:=co b w y;unfold eT at i;rw[o] at i;simp at i
 rcases I b with d|⟨d,l,w⟩
 ·rw[d] at m;rcases e.yw b K m with d|⟨v,f,M,L,N⟩
  ·exact .inl d
  exact .inr ⟨v,f,M,R _ _ L,N.mono R⟩
 rw[d] at m;cases m;right;by_cases y:b=g
 ·subst y;exact⟨j,j,rfl,Q,.refl _⟩
 obtain⟨f,i,d6⟩:=co b w y;exact⟨j,f,rfl,R _ _ i,(d6.mono R).trans (.step Q (.refl _))⟩
end
end
theorem LR (c a:Nat) (g:cZ) (e:Int) (i:g=List.replicate a e++List.replicate (c-a) 0) (j:a<c):g.set a e=List.replicate (a+1) e++List.replicate (c-(a+1)) 0:=by
 subst i;apply g9;intro b;rw[pQ];simp only[lA,oJ,List.getElem?_append,ly];split
 ·rename_i h;subst h;rw[if_pos U,if_pos U];split<;>first|rfl|omega
 by_cases d:b<a
 ·rw[if_pos d,if_pos d,if_pos (U:b<a+1),if_pos (U:b<a+1)]
 rw[if_neg d,if_neg (U:¬b<a+1)];by_cases f:b-a<c-a
 ·rw[if_pos f,if_pos (U:b-(a+1)<c-(a+1))]
 rw[if_neg f,if_neg (U:¬b-(a+1)<c-(a+1))]
theorem VH (a:Nat) (k:a<=200):y6 ((a:Int),())=some ((List.replicate a (-1),(List.replicate a (-1),())),()):=by
 rw[<-ac.eq_iff];unfold y6;have j:e8=4294967296:=rfl;simp only[ac.bT,ac.uH,ac.af,de];refine⟨⟨U,U,U⟩,⟨U,U,U⟩,?_⟩;refine ac.for (i0:=0) a (λb i=>i.1.1=List.replicate b (-1)++List.replicate (a-b) 0/\i.1.2.1=List.replicate b (-1)++List.replicate (a-b) 0) rfl ⟨ab,ab⟩ (dQ _) ?_ ?_
 ·rintro b ⟨⟨g,e,_⟩,_⟩ _ h ⟨c,d⟩;simp only at c d;have l:g.length=a:=(by rw[c];simp;omega);have m:e.length=a:=(by rw[d];simp;omega);simp only[ac.bS,ac.bT,ac.af,ac.n3,ac.nT,ac.xh,de];exact⟨λ_=>⟨⟨U,U⟩,U,⟨U,U⟩,U,fo U,LR a b g _ c h,LR a b e _ d h⟩,λf=>by simp at f;omega⟩
 rintro⟨⟨g,e,_⟩,_⟩ ⟨c,d⟩;simp only at c d;simp only[ac.bS,ac.af];refine⟨λf=>by simp at f,λ_=>?_⟩;rw[c,d];simp
structure Ca (bO:cO) (en:cZ):Prop where
 len:en.length=bO.length
 j5:∀u p:Nat,en[u]?=some (p:Int)↔jG (es bO) u p
 none:∀(u:Nat) (x:Int),en[u]?=some x->x=-1\/∃p:Nat,x=(p:Int)
theorem Z7 (c:cO):kf c 0 (λ_=>False) (List.replicate c.length (-1)) (List.replicate c.length (-1)):=by
 refine⟨ab,ab,λd f=>?_,λd e a=>?_,λd=>Iff.rfl,λd e a=>?_⟩
 ·constructor
  ·intro b;unfold eT at b;rw[ly] at b;split at b
   ·simp at b
   cases b
  rintro⟨_,⟨b,_⟩|⟨_,b,_⟩⟩<;>omega
 ·rw[ly] at a;split at a
  ·cases a;exact .inl rfl
  cases a
 rw[ly] at a;split at a
 ·cases a;exact .inl rfl
 cases a
theorem kf.Ml {h:Nat->Prop} (b:kf j a t f d) (i:∀e g,e<j.length->(oL j a t e g↔oL j c h e g)):kf j c h f d:=
 ⟨b.sB,b.IH,λe g=>(b.j5 e g).trans (and_congr_right λk=>i e g k),b.none,b.yv,b.yw⟩
theorem Yr (r:eU j) (q:∀d,es j a d->t d) (m c:Nat):oL j a t m c↔oL j (a+1) (λ_=>False) m c:=by
 have e:=es.symm r;constructor
 ·rintro(⟨o,b⟩|⟨rfl,b,p,d,_,v,u,s⟩)
  ·exact .inl ⟨U,b⟩
  refine .inl ⟨U,b,?_,λz x C f=>?_⟩
  ·have g:eN (es j) c d c:=.one (e _ _ u);rcases s.walk with rfl|f
   ·exact g
   exact((f.symm e).mono U).trans v g
  obtain⟨A,D,y⟩:=KK x f;exact p A U y
 rintro(⟨o,b⟩|⟨_,_,_,_,n,_⟩)
 ·rcases bp c a with k|k
  ·exact .inl ⟨k,b⟩
  obtain rfl:c=a:=U;obtain⟨l,h,i⟩:=(LB e b.1).1 b.fill;exact .inr ⟨rfl,b.1,λz B w=>by have:=w.uniq b;omega,l,q l h,by have:=i.le;have:=b.1;omega,h,i⟩
 exact n.elim
theorem Rg (a:cO) (v:∀B∈a,B.length<4611686018427387904) (w:a.length<=200) (j:eU a):ac (y4 ((a,()),())) (λy=>y.2.1=0/\Ca a y.1):=by
 classical
 unfold y4;have A:hy a=0:=(by unfold hy;rw[if_neg U,if_pos j]);simp only[ac.bT,FH a v,A,ac.af,ac.bS];refine⟨λc=>by simp at c,λ_=>?_⟩;rw[VH _ w];simp only[ac.af];refine ac.mono (P:=λd=>kf a a.length (λ_=>False) d.1.1 d.1.2.1) ?_ ?_
 ·refine ac.for (i0:=0) a.length (λb m=>kf a b (λ_=>False) m.1.1 m.1.2.1) rfl (Z7 a) (dQ _) ?_ ?_
  ·rintro b ⟨⟨p,s,_⟩,_⟩ _ k e;simp only at e;simp only[ac.bS,ac.bT,ac.hB,ac.af];refine⟨λ_=>⟨k,?_⟩,λg=>by simp at g;omega⟩;have D:=v _ (bQ k);refine ac.mono (P:=λd=>kf a (b+1) (λ_=>False) d.1.1 d.1.2.1) ?_ ?_
   ·refine ac.for (i0:=0) a[b].length (λi m=>kf a b (λh=>(h:Int)∈a[b].take i) m.1.1 m.1.2.1) rfl (by simpa using e) (dQ _) ?_ ?_
    ·rintro i ⟨⟨x,t,_⟩,_⟩ _ o f;simp only at f;simp only[ac.bS,ac.bT,ac.hB,ac.af];refine⟨λ_=>⟨o,?_⟩,λg=>by simp at g;omega⟩;have E:=(j.asc b k).2 _ (bQ o);obtain⟨h,r⟩:∃h:Nat,a[b][i]=(h:Int):=⟨a[b][i].toNat,U⟩;have q:es a b h:=⟨k,r▸bQ o⟩;rw[r];refine(UA j w f k q).mono ?_;rintro⟨⟨F,C,_⟩,_⟩ u;simp only at u;refine⟨fo U,u.Ml (λn d _=>?_)⟩;have z:(λl:Nat=>(l:Int)∈a[b].take i\/l=h)=(λl:Nat=>(l:Int)∈a[b].take (i+1)):=by
      funext l;rw[<-mH o,r];apply propext;simp only[dO,dP];constructor<;>rintro(c|c)<;>first|exact .inl c|(right;omega)
     rw[z]
    rintro⟨⟨x,t,_⟩,_⟩ f;simp only at f;simp only[ac.bS,ac.af];refine⟨λg=>by simp at g,λ_=>?_⟩;rw[oK] at f;exact f.Ml (λn d _=>Yr j (λh q=>q.2) n d)
   rintro⟨⟨x,t,_⟩,_⟩ f;exact⟨fo U,f⟩
  rintro⟨⟨p,s,_⟩,_⟩ e;simp only[ac.bS,ac.af];exact⟨λg=>by simp at g,λ_=>e⟩
 rintro⟨⟨p,s,_⟩,_⟩ e;simp only at e;refine⟨trivial,e.sB,λn d=>?_,e.none⟩;rw[show(p[n]?=some (d:Int))=eT p n d from rfl,e.j5];constructor
 ·rintro⟨_,⟨_,c⟩|⟨_,_,_,_,c,_⟩⟩
  ·exact c
  exact c.elim
 intro c;have:=c.2.1.lt j;exact⟨this.1,.inl ⟨this.2,c⟩⟩
section
def jD (c:cO) (a b:Nat):Prop:=b=a\/(a<b/\eN (es c) a a b)
open Classical in
def lQ (c:cO) (b:Nat):cZ:=((List.range (b+1)).filter λa=>decide (jD c a b)).map λ(a:Nat)=>(a:Int)
open Classical in
def jO (c:cO) (b d:Nat):cZ:=((List.range d).filter λa=>decide (b<=a/\jD c b a)).map λ(a:Nat)=>(a:Int)
def aX (a:cO) (b:Nat):cZ:=jO a b a.length
theorem I2:(a:Int)∈lQ j c↔a<=c/\jD j a c:=by
 unfold lQ;simp only[bR,gr,gN,decide_eq_true_eq];constructor
 ·rintro⟨d,⟨e,b⟩,f⟩;have:d=a:=U;subst this;exact⟨U,b⟩
 exactλ⟨e,b⟩=>⟨a,⟨U,b⟩,rfl⟩
theorem Vp (c:b∈lQ j a):∃d:Nat,b=(d:Int)/\d<=a/\jD j d a:=by unfold lQ at c;simp only[bR,gr,gN,decide_eq_true_eq] at c;obtain⟨e,⟨h,f⟩,g⟩:=c;exact⟨e,g.symm,U,f⟩
theorem jD.le (b:jD j c a):c<=a:=by rcases b with b|b<;>omega
theorem qT:(a:Int)∈aX j c↔a<j.length/\jD j c a:=by
 unfold aX jO;simp only[bR,gr,gN,decide_eq_true_eq];constructor
 ·rintro⟨e,⟨d,b⟩,f⟩;have:e=a:=U;subst this;exact⟨d,b.2⟩
 exactλ⟨d,b⟩=>⟨a,⟨d,b.le,b⟩,rfl⟩
theorem BN (c:Nat->Bool) (b:Nat):(((List.range b).filter c).map λ(a:Nat)=>(a:Int)).Pairwise (· < ·):=by rw[tp];refine List.Pairwise.filter _ ?_;exact List.pairwise_lt_range.imp (λd=>by omega)
theorem Zx (a:cO) (b:Nat):(lQ a b).Pairwise (· < ·):=BN _ _
theorem tJ (a:cO) (b:Nat):(aX a b).Pairwise (· < ·):=BN _ _
theorem Zy (b:cO) (a:Nat):(lQ b a).length<=a+1:=by unfold lQ;rw[fL];exact da (hV _ _) ab
theorem Hg (b:cO) (c a:Nat):(jO b c a).length<=a:=by unfold jO;rw[fL];exact da (hV _ _) ab
structure vz (bO:cO) (i:Nat) (N:Nat->Prop) (m:cV):Prop where
 len:m.length=i+1
 top:m[i]?=some true
 iff:∀u,u<i->(m[u]?=some true↔∃k,N k/\gM (es bO) k u)
theorem Sq (am:eU j) (z:Ca j d) (cs:a<j.length) (cv:j.length<=200) {G:cV} (q:vz j a t G) {k0:Nat} (a0:k0<j.length):ac (loop (σ:=cu) (ρ:=cB) (λ(D,v,_)=>
 Option.bind (α:=cB⊕ca) (bif decide (D>=(0:Int))==true then bif decide (D<(a:Int))==true then(bx v.length D).bind λbl=>
 (bi v bl λad=>some ad).bind λce=>
  bif !ce then
 some (.inl (v,())) else
 some (.inr (.inr (v,()))) else some (.inr (.inr (v,()))) else some (.inr (.inr (v,())))) λbs=>match bs with
 |.inl (Q,_)=>(
 (bx Q.length D).bind λZ=>
 (bi Q Z λ_=>some (Q.set Z true)).bind λco=>
 (ay d D).bind λci=>
 some (.inl (ci,co,())))
 |.inr R=>some R) ((k0:Int),G,())) (λR=>vz j a (λm=>t m\/m=k0) R.1):=by
 refine ac.loop (λh=>h.2.1.length=a+1/\h.2.1[a]?=some true/\(h.1=-1\/∃g:Nat,h.1=(g:Int)/\g<j.length/\gM (es j) k0 g)/\(∀b,b<a->h.2.1[b]?=some true->G[b]?=some true\/gM (es j) k0 b)/\(∀b,b<a->G[b]?=some true->h.2.1[b]?=some true)/\(∀b,b<a->gM (es j) k0 b->h.2.1[b]?=some true\/∃g:Nat,h.1=(g:Int)/\gM (es j) g b)/\(∀b e,b<a->e<a->h.2.1[b]?=some true->jG (es j) b e->h.2.1[e]?=some true\/h.1=(e:Int))) (λh=>if h.1=-1 then 0 else 1000-h.1.toNat) ?_ ?_
 ·refine⟨q.len,q.top,.inr ⟨k0,rfl,a0,.refl _⟩,λb _ c=>.inl c,λb _ c=>c,λb _ c=>.inr ⟨k0,rfl,c⟩,λb e f k i F=>.inl ?_⟩;obtain⟨m,C,s⟩:=(q.iff b f).1 i;exact(q.iff e k).2 ⟨m,C,s.trans (.up F (.refl _))⟩
 rintro⟨d0,n,_⟩ ⟨N,O,M,I,J,y,K⟩;simp only at N O M I J y K;have H:(∀b,b<a->gM (es j) k0 b->n[b]?=some true)->vz j a (λm=>t m\/m=k0) n:=λan=>by
  refine⟨N,O,λb f=>⟨λi=>?_,?_⟩⟩
  ·rcases I b f i with c|c
   ·obtain⟨m,C,s⟩:=(q.iff b f).1 c;exact⟨m,.inl C,s⟩
   exact⟨k0,.inr rfl,c⟩
  rintro⟨m,C|rfl,s⟩
  ·exact J b f ((q.iff b f).2 ⟨m,C,s⟩)
  exact an b f s
 simp only[ac.bT,ac.bS,ac.af,ac.n3,ac.nT];rcases M with rfl|⟨g,rfl,av,S⟩
 ·refine⟨λL=>by simp at L,λ_=>H λb f o=>?_⟩;rcases y b f o with c|⟨g,M,_⟩
  ·exact c
  omega
 refine⟨λ_=>⟨λB=>?_,λB=>?_⟩,λL=>by simp at L⟩
 ·have B:g<a:=(by simpa using B);have r:g<n.length:=U;simp only[de];refine⟨⟨U,r⟩,r,λdl=>?_,λY=>?_⟩
  ·have V:g<d.length:=(by rw[z.len];exact av);refine⟨⟨U,r⟩,r,?_⟩;rw[ac.hB];refine⟨V,?_⟩;have E:d[g]?=some d[g]:=bo V;have X:d[g]=-1\/∃e:Nat,d[g]=(e:Int)/\jG (es j) g e:=by
    rcases z.none g _ E with l|⟨e,l⟩
    ·exact .inl l
    exact .inr ⟨e,l,(z.j5 g e).1 (by rw[E,l])⟩
   have p:∀b,(n.set g true)[b]?=some true↔b=g\/n[b]?=some true:=λb=>by
    by_cases f:b=g
    ·subst f;simp[kB r]
    rw[lz U];simp[f]
   refine⟨⟨by simp[N],by rw[lz U];exact O,?_,λb f i=>?_,λb f i=>(p b).2 (.inr (J b f i)),λb f o=>?_,λb e f k i F=>?_⟩,?_⟩
   ·rcases X with l|⟨e,l,k⟩
    ·exact .inl l
    exact .inr ⟨e,l,(k.2.1.lt am).2,S.trans (.up k (.refl _))⟩
   ·rcases(p b).1 i with rfl|i
    ·exact .inr S
    exact I b f i
   ·rcases y b f o with c|⟨u,T,A⟩
    ·exact .inl ((p b).2 (.inr c))
    obtain rfl:u=g:=U;cases A with
    |refl=>exact .inl ((p _).2 (.inl rfl))
    |@up _ e _ k P=>
     have:=(z.j5 u e).2 k;rw[E] at this;exact .inr ⟨e,ec this,P⟩
   ·rcases(p b).1 i with rfl|i
    ·have:=(z.j5 b e).2 F;rw[E] at this;exact .inr (ec this)
    rcases K b e f k i F with c|c
    ·exact .inl ((p e).2 (.inr c))
    exact .inl ((p e).2 (.inl U))
   rcases X with l|⟨e,l,k⟩
   ·rw[if_pos l,if_neg U];omega
   have:=k.1;rw[l,if_neg U,if_neg U];omega
  have W:n[g]?=some true:=(by rw[bo r];simp at Y;rw[Y]);refine H λb f o=>?_;rcases y b f o with c|⟨u,T,A⟩
  ·exact c
  obtain rfl:u=g:=U;have:∀{w x:Nat},gM (es j) w x->x<a->n[w]?=some true->n[x]?=some true:=by
   intro w x c
   induction c with
   |refl=>exactλ_ c=>c
   |@up w e x k P a4=>
    intro ap a3;have ds:=P.le;refine a4 ap ?_;rcases K w e (by have:=k.1;omega) U a3 k with c|c
    ·exact c
    have:e=u:=U;rw[this];exact W
  exact this A f W
 have B:a<=g:=(by simpa using B);refine H λb f o=>?_;rcases y b f o with c|⟨u,T,A⟩
 ·exact c
 have:=A.le;omega
open Classical in
theorem Zz (t:eU j) (B:∀F∈j,F.length<4611686018427387904) (z:Ca j d) (n:a<j.length) (C:j.length<=200):Am ((j,()),d,(a:Int),())=some (lQ j a,()):=by
 rw[<-ac.eq_iff];unfold Am;have I:e8=4294967296:=rfl;have D:=es.symm t;have E:IntKind.i64.wrap ((a:Int)+1)=((a+1:Nat):Int):=fo U;simp only[E,ac.bT,ac.uH,ac.n3,ac.nT,ac.af,de,ac.hB,oJ];refine⟨⟨U,U,U⟩,⟨U,U⟩,U,n,?_⟩;have H:=B _ (bQ n);refine ac.mono (P:=λG=>vz j a (λb=>es j a b) G.1) ?_ ?_
 ·refine ac.for (i0:=0) j[a].length (λb r=>vz j a (λe=>(e:Int)∈j[a].take b) r.1) rfl ?_ (dQ _) ?_ ?_
  ·refine⟨ab,by rw[kB ab],λh q=>?_⟩;rw[lz U,ly];simp
  ·rintro b ⟨m,_⟩ _ g f;simp only at f;simp only[ac.bS,ac.bT,ac.hB];refine⟨λ_=>⟨g,?_⟩,λi=>by simp at i;omega⟩;have K:=(t.asc a n).2 _ (bQ g);obtain⟨s,l⟩:∃s:Nat,j[a][b]=(s:Int):=⟨j[a][b].toNat,U⟩;rw[l];refine(Sq t z n C f (k0:=s) U).mono ?_;rintro⟨x,_⟩ A;simp only[ac.af];refine⟨fo U,?_⟩;have o:(λe:Nat=>(e:Int)∈j[a].take b\/e=s)=(λe:Nat=>(e:Int)∈j[a].take (b+1)):=by
    funext e;rw[<-mH g,l];apply propext;simp only[dO,dP];constructor<;>rintro(c|c)<;>first|exact .inl c|(right;omega)
   rw[<-o];exact A
  rintro⟨m,_⟩ f;simp only[ac.bS,ac.af];refine⟨λi=>by simp at i,λ_=>?_⟩;rw[oK] at f;have o:(λe:Nat=>(e:Int)∈j[a])=(λe=>es j a e):=(by funext e;exact propext ⟨λc=>⟨n,c⟩,λc=>c.2⟩);rw[<-o];exact f
 rintro⟨m,_⟩ f;simp only at f;simp only[ac.bT,ac.af];have u:∀h,(q:h<m.length)->(m[h]=true↔jD j h a):=by
  intro h q;have v:=f.len;rcases bp h a with c|c
  ·have:=f.iff h c;rw[bo q,bI] at this;rw[this,<-LB D c];constructor
   ·exactλl=>.inr ⟨c,l⟩
   rintro(o|⟨_,l⟩)
   ·omega
   exact l
  obtain rfl:h=a:=U;have:=f.top;rw[bo q,bI] at this;rw[this];exact⟨λ_=>.inl rfl,λ_=>rfl⟩
 have v:=f.len;refine ac.for (i0:=0) m.length (λb r=>r.1=m/\r.2.1=((List.range b).filter λw=>decide (jD j w a)).map λ(w:Nat)=>(w:Int)) rfl ⟨rfl,rfl⟩ (dQ _) ?_ ?_
 ·rintro b ⟨x,y,_⟩ _ g ⟨rfl,k⟩;simp only at k g v u;have J:y.length<=b:=by
   rw[k,fL];exact da (hV _ _) ab
  simp only[ac.bS,ac.bT,ac.n3,ac.nT,ac.af,ac.qK,de];refine⟨λ_=>⟨⟨U,g⟩,g,λp=>⟨?_,fo U,trivial,?_⟩,λp=>⟨fo U,trivial,?_⟩⟩,λi=>by simp at i;omega⟩
  ·simp;omega
  ·have:=(u b g).1 p;rw[k3,lw,gb,<-k];simp[this]
  have:¬jD j b a:=λc=>(by rw[(u b g).2 c] at p;cases p);rw[k3,lw,gb,<-k];simp[this]
 rintro⟨x,y,_⟩ ⟨rfl,k⟩;simp only at k;simp only[ac.bS,ac.af];refine⟨λi=>by simp at i,λ_=>?_⟩;rw[k];unfold lQ;rw[v]
open Classical in
theorem Sv (c:cO) (b a:Nat):jO c b (a+1)=jO c b a++(if b<=a/\jD c b a then[(a:Int)] else[]):=by
 unfold jO;rw[k3,lw,gb];congr 1;by_cases d:b<=a/\jD c b a
 ·rw[if_pos d];simp[d]
 rw[if_neg d];simp only[jH,tm];rw[if_neg (by simpa using d)];rfl
theorem MR (r:eU j) (s:∀C∈j,C.length<4611686018427387904) (u:j.length<=200):Al ((j,()),())=some ((List.range j.length).map (aX j),0,()):=by
 classical
 rw[<-ac.eq_iff];unfold Al;have K:e8=4294967296:=rfl;simp only[ac.bT];refine(Rg j s u r).mono ?_;rintro⟨N,H,_⟩ ⟨t,n⟩;simp only at t n;subst t;have B:=n.len;simp only[ac.bS,ac.bT,ac.af,ac.uH,de];refine⟨λc=>by simp at c,λ_=>⟨⟨U,U,U⟩,?_⟩⟩;rw[B];refine ac.for (i0:=0) j.length (λb m=>m.1=(List.range j.length).map λa=>jO j a b) rfl ?_ (dQ _) ?_ ?_
 ·apply g9;intro l;simp[jO,ly];split<;>simp_all
 ·rintro b ⟨E,_⟩ _ x i;simp only at i;simp only[ac.bS,ac.bT,Zz r s n x u,ac.af];refine⟨λ_=>?_,λe=>by simp at e;omega⟩;have M:=Zy j b;refine ac.mono (P:=λF=>F.1=(List.range j.length).map λa=>jO j a (b+1)) ?_ ?_
  ·refine ac.for (i0:=0) (lQ j b).length (λl m=>m.2.1=lQ j b/\m.1=(List.range j.length).map λa=>jO j a b++(if(a:Int)∈(lQ j b).take l then[(b:Int)] else[])) rfl ?_ (dQ _) ?_ ?_
   ·refine⟨rfl,?_⟩;rw[i];simp
   ·rintro l ⟨h,G,_⟩ _ g ⟨k,d⟩;simp only at k d;subst k;obtain⟨a,o,J,_⟩:=Vp (bQ g);have L:h.length=j.length:=(by rw[d];simp);have f:a<h.length:=U;have A:(a:Int)∉(lQ j b).take l:=λp=>by
     obtain⟨D,y,z⟩:=ha.1 p;simp only[dX] at y;simp only[vv] at z;have:=(gu.1 (Zx j b)) D l U g U;omega
    have v:h[a]=jO j a b:=(by have:h[a]?=some (jO j a b):=(by rw[d,eS,oH U];simp only[fB];rw[if_neg A,jc]);rw[bo f] at this;exact ec this);have I:=Hg j a b;simp only[ac.bS,ac.bT,ac.n3,ac.nT,ac.af,ac.qK,de,o,pU,Bool.and_self,ac.pn];refine⟨λ_=>⟨⟨U,g⟩,g,⟨U,f⟩,f,?_,⟨U,f⟩,λ_=>⟨f,f,fo U,trivial,?_⟩,λc=>by cases c⟩,λe=>by simp at e;omega⟩
    ·rw[v];simp;omega
    apply g9;intro q;rw[pQ];by_cases w:a=q
    ·subst w;rw[if_pos rfl,if_pos f,eS,oH (U:a<j.length)];simp only[fB];rw[v,if_pos];rw[<-mH g,o];simp
    rw[if_neg w,d,eS,eS];rcases bp q j.length with c|c
    ·rw[oH c];simp only[fB];congr 2;rw[<-mH g,o];have:((q:Int)=(a:Int))↔False:=iff_of_false U id;simp only[dO,dP,this,or_false]
    rw[fc (by simpa using c)];rfl
   rintro⟨h,G,_⟩ ⟨k,d⟩;simp only at k d;subst k;simp only[ac.bS,ac.af];refine⟨λe=>by simp at e,λ_=>?_⟩;rw[d,oK];refine hW λa _=>?_;rw[Sv];congr 1;by_cases c:a<=b/\jD j a b
   ·rw[if_pos c,if_pos (I2.2 c)]
   rw[if_neg c,if_neg (λp=>c (I2.1 p))]
  rintro⟨h,_⟩ d;exact⟨fo U,d⟩
 rintro⟨E,_⟩ i;simp only at i;simp only[ac.bS,ac.af];refine⟨λe=>by simp at e,λ_=>?_⟩;rw[i];rfl
end
theorem FP (a:cZ) (b:Int) (j:a.length<4611686018427387904):wi (a,b,())=some (decide (b∈a),()):=by
 rw[<-ac.eq_iff];unfold wi;simp only[ac.bT];refine ac.for (i0:=0) a.length (λd _=>b∉a.take d) rfl ab (dQ _) ?_ ?_
 ·rintro d _ _ h c;simp only[ac.bS,ac.bT,ac.af,ac.hB];refine⟨λ_=>⟨h,λf=>?_,λi=>⟨fo U,?_⟩⟩,λg=>by simp at g;omega⟩
  ·have f:a[d]=b:=(by simpa using f);have:b∈a:=f▸bQ h;simp[this]
  rw[<-mH h,dO];have i:¬a[d]=b:=(by simpa using i);rintro(e|e)
  ·exact c e
  exact i (dP.1 e).symm
 rintro _ c;simp only[ac.bS,ac.af];refine⟨λg=>by simp at g,λ_=>?_⟩;rw[oK] at c;simp[c]
def fe (a:cM) (b c:Nat):Bool:=(a.getD b []).getD c false
def kQ (c:cM) (b d:Nat):cZ:=((List.range d).filter λa=>b !=a&&(fe c b a||fe c a b)).map λ(a:Nat)=>(a:Int)
def h2 (a:cM):cO:=(List.range a.length).map λb=>kQ a b a.length
theorem IP (b:cM) (c a:Nat):(kQ b c a).length<=a:=by unfold kQ;rw[fL];exact da (hV _ _) ab
theorem IQ (c:cM) (b a:Nat):kQ c b (a+1)=kQ c b a++(if(b !=a&&(fe c b a||fe c a b))=true then[(a:Int)] else[]):=by
 unfold kQ;rw[k3,lw,gb];congr 1;by_cases d:(b !=a&&(fe c b a||fe c a b))=true
 ·rw[if_pos d];simp only[jH,d,tm];rfl
 rw[if_neg d];simp only[jH,tm];rw[if_neg d];rfl
theorem tE {b:cM} (d:a<b.length) (e:c<b[a].length):fe b a c=b[a][c]:=by unfold fe;simp[List.getD,d,e]
theorem FN (a:cM) (s:∀l∈a,l.length=a.length) (y:a.length<=4294967296):wB (a,())=some ((h2 a,()),()):=by
 rw[<-ac.eq_iff];unfold wB;have v:e8=4294967296:=rfl;simp only[ac.bT];refine ac.mono (P:=λg=>g.2.1.1=h2 a) ?_ ?_
 ·refine ac.for (i0:=0) a.length (λc n=>n.2.1.1=(List.range c).map λc=>kQ a c a.length) rfl rfl (dQ _) ?_ ?_
  ·rintro c ⟨n,m,_⟩ _ p h;simp only at h;simp only[ac.bS,ac.bT,ac.af];refine⟨λ_=>?_,λk=>by simp at k;omega⟩;refine ac.mono (P:=λg=>g.2.1=m/\g.2.2.1=kQ a c a.length) ?_ ?_
   ·refine ac.for (i0:=0) a.length (λe g=>g.2.1=m/\g.2.2.1=kQ a c e) rfl ⟨rfl,rfl⟩ (dQ _) ?_ ?_
    ·rintro e ⟨r,o,l,_⟩ _ q ⟨i,f⟩;simp only at f i;subst i;have t:=s _ (bQ p);have u:=s _ (bQ q);simp only[ac.bS (b:=decide _),ac.bT (x:=Option.bind _ _)];refine⟨λ_=>?_,λk=>by simp at k;omega⟩;rw[ac.bT];refine ac.mono (P:=λg=>g=((c !=e&&(fe a c e||fe a e c)),r,o,l,())) ?_ ?_
     ·simp only[ac.bS,ac.bT,ac.af,ac.hB];rw[tE p U,tE q U];refine⟨λd=>⟨p,U,λj=>⟨q,U,?_⟩,λj=>?_⟩,λd=>?_⟩
      ·have d:c≠e:=(by simp at d;omega);have j:a[c][e]=false:=(by simpa using j);simp[d,j]
      ·have d:c≠e:=(by simp at d;omega);have j:a[c][e]=true:=(by simpa using j);simp[d,j]
      have d:c=e:=(by simp at d;omega);simp[d]
     rintro g rfl;have w:=IP a c e;simp only[ac.bS,ac.bT,ac.af,ac.qK];refine⟨λd=>⟨by rw[f];simp;omega,fo U,trivial,?_⟩,λd=>⟨fo U,trivial,?_⟩⟩
     ·rw[IQ,if_pos d,f]
     rw[IQ,if_neg (by rw[d];simp),f,jc]
    rintro⟨r,o,l,_⟩ ⟨i,f⟩;simp only at f i;subst i;simp only[ac.bS,ac.af];exact⟨λk=>by simp at k,λ_=>⟨trivial,f⟩⟩
   rintro⟨r,o,l,_⟩ ⟨i,f⟩;simp only at f i;subst i;simp only[ac.bT,ac.af,ac.qK];refine⟨by rw[h];simp;omega,fo U,?_⟩;rw[h,f,k3,gb];rfl
  rintro⟨n,m,_⟩ h;simp only at h;simp only[ac.bS,ac.af];exact⟨λk=>by simp at k,λ_=>h⟩
 rintro⟨n,⟨m,_⟩,_⟩ h;simp only at h;simp only[ac.af];rw[h]
theorem D9 {e:cM}:(a:Int)∈kQ e c g↔a<g/\c≠a/\(fe e c a||fe e a c)=true:=by
 unfold kQ;simp only[bR,gr,gN,bd,bne_iff_ne];constructor
 ·rintro⟨f,⟨b,d⟩,h⟩;have:f=a:=U;subst this;exact⟨b,d⟩
 exactλ⟨b,d⟩=>⟨a,⟨b,d⟩,rfl⟩
theorem H1 (c:cM):eU (h2 c):=by
 have h:(h2 c).length=c.length:=(by simp[h2]);have d:∀a,(b:a<(h2 c).length)->(h2 c)[a]=kQ c a c.length:=λa b=>(by simp[h2]);refine⟨λa b=>?_,λa b=>?_,λa b j i e=>?_⟩
 ·rw[d a b,h];refine⟨BN _ _,λm f=>?_⟩;unfold kQ at f;simp only[bR,gr,gN] at f;obtain⟨k,⟨l,_⟩,rfl⟩:=f;omega
 ·rw[d a b,D9];exactλg=>g.2.1 rfl
 rw[d a b,D9] at e;rw[d j i,D9];exact⟨U,e.2.1.symm,by rw[Bool.or_comm];exact e.2.2⟩
theorem TV (a:cM):(h2 a).length=a.length:=by simp[h2]
theorem TW (c:cM):∀b∈h2 c,b.length<=c.length:=by intro b a;unfold h2 at a;simp only[bR,gN] at a;obtain⟨d,_,rfl⟩:=a;exact IP _ _ _
theorem g4 {b:List k} {c:k} (d:b[a]?=some c):ay b (a:Int)=some c:=by unfold ay;rw[if_pos U,de,d]
theorem Cm (c:cO):eU c↔∀a,(g:a<c.length)->c[a].Pairwise (· < ·)/\∀b,(e:b<c[a].length)->(0<=c[a][b]/\c[a][b]<c.length)/\c[a][b]≠(a:Int)/\(a:Int)∈c.getD (c[a][b]).toNat []:=by
 constructor
 ·rintro⟨j,l,m⟩ a d;refine⟨(j a d).1,λb e=>?_⟩;have k:=(j a d).2 _ (bQ e);refine⟨k,λf=>l a d (f▸bQ e),?_⟩;have h:(c[a][b]).toNat<c.length:=U;have:=m a d _ h (by rw[Int.toNat_of_nonneg k.1];exact bQ e);rw[List.getD,bo h];exact this
 intro g;refine⟨λa d=>⟨(g a d).1,λp n=>?_⟩,λa d i=>?_,λa d o h i=>?_⟩
 ·obtain⟨b,e,rfl⟩:=ha.1 n;exact((g a d).2 b e).1
 ·obtain⟨b,e,f⟩:=ha.1 i;exact((g a d).2 b e).2.1 f
 obtain⟨b,e,f⟩:=ha.1 i;have:=((g a d).2 b e).2.2;rw[f,de,List.getD,bo h] at this;exact this
theorem E1 (a:cO) (w:∀F∈a,F.length<4611686018427387904):uh ((a,()),())=some (hy a,()):=by
 classical
 rw[<-ac.eq_iff];unfold uh;simp only[ac.bS,ac.af,ac.bT];refine⟨λd=>?_,λd=>?_⟩
 ·have:200<a.length:=(by simp at d;omega);simp[hy,this]
 have z:¬200<a.length:=(by simp at d;omega);refine ac.mono (P:=λi=>(i=.inl ()/\eU a)\/(i=.inr (1,())/\¬eU a)) ?_ ?_
 rotate_left
 ·rintro _ (⟨rfl,e⟩|⟨rfl,e⟩)
  ·simp only[ac.af];simp[hy,z,e]
  simp only[ac.af];simp[hy,z,e]
 refine ac.for (i0:=0) a.length (λt _=>∀b,(d:b<a.length)->b<t->a[b].Pairwise (· < ·)/\∀c,(f:c<a[b].length)->(0<=a[b][c]/\a[b][c]<a.length)/\a[b][c]≠(b:Int)/\(b:Int)∈a.getD (a[b][c]).toNat []) rfl (λb _ d=>by omega) (dQ _) ?_ ?_
 ·rintro b _ _ e o;have E:=w _ (bQ e);simp only[ac.bS,ac.af,ac.bT,ac.hB];refine⟨λ_=>⟨e,?_⟩,λg=>by simp at g;omega⟩;rw[MM _ E];simp only[ac.af];refine⟨λh=>.inr ⟨trivial,λq=>?_⟩,λh=>?_⟩
  ·have:=(q.asc b e).1;simp[this] at h
  have h:a[b].Pairwise (· < ·):=(by simpa using h);refine ac.mono (P:=λi=>(i=.inl ()/\∀c,(f:c<a[b].length)->(0<=a[b][c]/\a[b][c]<a.length)/\a[b][c]≠(b:Int)/\(b:Int)∈a.getD (a[b][c]).toNat [])\/(i=.inr (.inr (.inr (1,())))/\¬eU a)) ?_ ?_
  rotate_left
  ·rintro _ (⟨rfl,s⟩|⟨rfl,s⟩)
   ·simp only[ac.af];refine⟨fo U,λv D H=>?_⟩;rcases bp v b with d|d
    ·exact o v D d
    obtain rfl:v=b:=U;exact⟨h,s⟩
   simp only[ac.af];exact .inr ⟨trivial,s⟩
  refine ac.for (i0:=0) a[b].length (λt _=>∀c,(f:c<a[b].length)->c<t->(0<=a[b][c]/\a[b][c]<a.length)/\a[b][c]≠(b:Int)/\(b:Int)∈a.getD (a[b][c]).toNat []) rfl (λb _ d=>by omega) (dQ _) ?_ ?_
  ·rintro c _ _ f p;have j:¬((0<=a[b][c]/\a[b][c]<a.length)/\a[b][c]≠(b:Int)/\(b:Int)∈a.getD (a[b][c]).toNat [])->¬eU a:=λd q=>d (((Cm a).1 q b e).2 c f);simp only[ac.bS,ac.af,ac.bT,ac.hB];refine⟨e,λ_=>⟨e,f,λk=>⟨λl=>⟨λm=>?_,λm=>?_⟩,λl=>?_⟩,λk=>?_⟩,λg=>by simp at g;omega⟩
   ·have A:0<=a[b][c]/\a[b][c]<(a.length:Int):=(by simp at k l;omega);have C:a[b][c]≠(b:Int):=(by simpa using m);rw[ac.H9];refine⟨U,A.1,?_⟩;rw[FP _ _ (w _ (bQ _))];have x:a.getD (a[b][c]).toNat []=a[(a[b][c]).toNat]'(by omega):=by
     rw[List.getD,bo U];rfl
    simp only[ac.af];refine⟨λn=>.inr ⟨trivial,j ?_⟩,λn=>⟨fo U,λu B G=>?_⟩⟩
    ·rintro⟨_,_,y⟩;rw[x] at y;simp[y] at n
    rcases bp u c with d|d
    ·exact p u B d
    obtain rfl:u=c:=U;refine⟨A,C,?_⟩;rw[x];simpa using n
   ·refine .inr ⟨trivial,j (λr=>r.2.1 ?_)⟩;simpa using m
   ·refine .inr ⟨trivial,j (λr=>?_)⟩;simp at l;omega
   refine .inr ⟨trivial,j (λr=>?_)⟩;simp at k;omega
  rintro _ p;simp only[ac.bS,ac.af,ac.bT,ac.hB];exact⟨e,λg=>by simp at g,λ_=>.inl ⟨trivial,λc f=>p c f f⟩⟩
 rintro _ o;simp only[ac.bS,ac.af];exact⟨λg=>by simp at g,λ_=>.inl ⟨trivial,(Cm a).2 λb e=>o b e e⟩⟩
theorem Rm (b:cZ) (e:Int) (r:b.length<4611686018427387904):Aa (b,e,())=some (decide (∀c∈b,0<=c/\c<e),()):=by
 rw[<-ac.eq_iff];unfold Aa;simp only[ac.bT];refine ac.mono (P:=λn=>(n=.inl ()/\∀c∈b,0<=c/\c<e)\/(n=.inr (false,())/\¬∀c∈b,0<=c/\c<e)) ?_ ?_
 ·refine ac.for (i0:=0) b.length (λf _=>∀d,(a:d<b.length)->d<f->0<=b[d]/\b[d]<e) rfl (λd _ a=>by omega) (dQ _) ?_ ?_
  ·rintro f _ _ l j;have m:¬(0<=b[f]/\b[f]<e)->¬∀c∈b,0<=c/\c<e:=λa o=>a (o _ (bQ l));simp only[ac.bS,ac.bT,ac.af,ac.hB];refine⟨λ_=>⟨l,λh=>⟨l,λi=>.inr ⟨trivial,m (λa=>?_)⟩,λi=>⟨fo U,λd g q=>?_⟩⟩,λh=>.inr ⟨trivial,m (λa=>?_)⟩⟩,λk=>by simp at k;omega⟩
   ·simp at i;omega
   ·rcases bp d f with a|a
    ·exact j d g a
    obtain rfl:d=f:=U;simp at h i;omega
   simp at h;omega
  rintro _ j;simp only[ac.bS,ac.af];refine⟨λk=>by simp at k,λ_=>.inl ⟨trivial,λc p=>?_⟩⟩;obtain⟨d,g,rfl⟩:=ha.1 p;exact j d g g
 rintro _ (⟨rfl,a⟩|⟨rfl,a⟩)
 ·simp only[ac.af];rw[decide_eq_true a]
 simp only[ac.af];rw[decide_eq_false a]
theorem Jv:d.Nodup↔∀a,(c:a<d.length)->d[a]∉d.take a:=by
 unfold List.Nodup;rw[gu];constructor
 ·intro c a e h;obtain⟨j,g,b⟩:=ha.1 h;simp only[dX] at g;simp only[vv] at b;exact c j a U e U b
 intro c a i e f k b;exact c i f (ha.2 ⟨a,by simp;omega,by simp[b]⟩)
theorem Rs (b:cZ) (o:b.length<4611686018427387904):Ab (b,())=some (decide (¬b.Nodup),()):=by
 rw[<-ac.eq_iff];unfold Ab;simp only[ac.bT];refine ac.mono (P:=λj=>(j=.inl ()/\b.Nodup)\/(j=.inr (true,())/\¬b.Nodup)) ?_ ?_
 ·refine ac.for (i0:=0) b.length (λd _=>∀a,(c:a<b.length)->a<d->b[a]∉b.take a) rfl (λa _ c=>by omega) (dQ _) ?_ ?_
  ·rintro d _ _ i f;have aj:fH (d:Int)=some d:=(by unfold fH;rw[if_pos U,de]);have k:gh 0 d b.length=some ():=(by unfold gh;rw[if_pos U]);simp only[ac.bS,ac.bT,ac.af,ac.hB,aj,k,aM,fB,lu];refine⟨λ_=>⟨i,?_⟩,λg=>by simp at g;omega⟩;rw[FP _ _ (by rw[dX];omega)];simp only[ac.af];refine⟨λc=>.inr ⟨trivial,λl=>?_⟩,λc=>⟨fo U,λa e n=>?_⟩⟩
   ·exact Jv.1 l d i (of_decide_eq_true c)
   rcases bp a d with h|h
   ·exact f a e h
   obtain rfl:a=d:=U;exact of_decide_eq_false c
  rintro _ f;simp only[ac.bS,ac.af];exact⟨λg=>by simp at g,λ_=>.inl ⟨trivial,Jv.2 λa e=>f a e e⟩⟩
 rintro _ (⟨rfl,c⟩|⟨rfl,c⟩)
 ·simp only[ac.af];rw[decide_eq_false (λm=>m c)]
 simp only[ac.af];rw[decide_eq_true c]
def mG (a:cO):cM:=(List.range a.length).map λb=>(List.range a.length).map λ(c:Nat)=>decide ((c:Int)∈a.getD b [])
theorem Fp (a:cO):(mG a).length=a.length:=by simp[mG]
theorem L7 (b:a<j.length):(mG j)[a]?=some ((List.range j.length).map λ(c:Nat)=>decide ((c:Int)∈j[a])):=by simp[mG,b,List.getD]
theorem F9 (t:∀x∈j,x.length<4611686018427387904) (z:j.length<=200) (u:∀a,(d:a<j.length)->∀s∈j[a],0<=s/\s<(j.length:Int)):wD ((j,()),())=some (mG j,()):=by
 rw[<-ac.eq_iff];unfold wD;have y:e8=4294967296:=rfl;simp only[ac.bT];refine ac.mono (P:=λi=>i.1=mG j) ?_ (by rintro⟨n,_⟩ d;simp only at d;simp only[ac.af];rw[d]);refine ac.for (i0:=0) j.length (λw k=>k.1=(mG j).take w) rfl ab (dQ _) ?_ ?_
 ·rintro a ⟨o,_⟩ _ g f;simp only at f;have B:=t _ (bQ g);simp only[ac.bS,ac.bT,ac.uH,de];refine⟨λ_=>⟨⟨U,U,U⟩,?_⟩,λe=>by simp at e;omega⟩;refine ac.mono (P:=λi=>i.1=o/\i.2.1=(List.range j.length).map λ(q:Nat)=>decide ((q:Int)∈j[a])) ?_ ?_
  ·refine ac.for (i0:=0) j[a].length (λh k=>k.1=o/\k.2.1=(List.range j.length).map λ(q:Nat)=>decide ((q:Int)∈j[a].take h)) rfl ⟨rfl,?_⟩ (dQ _) ?_ ?_
   ·apply g9;intro h;simp[ly];split<;>simp_all
   ·rintro h ⟨n,p,_⟩ _ m ⟨c,b⟩;simp only at c b;have v:=u a g _ (bQ m);have A:p.length=j.length:=(by rw[b];simp);simp only[ac.bS,ac.bT,ac.hB,ac.n3,ac.nT,ac.af];refine⟨g,λ_=>⟨g,m,⟨v.1,U⟩,U,fo U,c,?_⟩,λe=>by simp at e;omega⟩;apply g9;intro l;rw[pQ,b,eS,eS];rcases bp l j.length with d|d
    ·rw[oH d];simp only[fB,<-mH m,dO,dP,fL,nG];by_cases r:(j[a][h]).toNat=l
     ·rw[if_pos r,if_pos U];have:(l:Int)=j[a][h]:=U;simp[this]
     rw[if_neg r];have:¬(l:Int)=j[a][h]:=U;simp[this]
    rw[if_neg U,fc (by simpa using d)];rfl
   rintro⟨n,p,_⟩ ⟨c,b⟩;simp only at c b;simp only[ac.bS,ac.bT,ac.hB,ac.af];refine⟨g,λe=>by simp at e,λ_=>⟨c,?_⟩⟩;rw[b,oK]
  rintro⟨n,p,_⟩ ⟨c,b⟩;simp only at c b;subst c;simp only[ac.bT,ac.qK,ac.af];refine⟨by rw[f];simp;omega,fo U,?_⟩;rw[f,b];have:=L7 g;rw[hq,this];rfl
 rintro⟨o,_⟩ f;simp only at f;simp only[ac.bS,ac.af];refine⟨λe=>by simp at e,λ_=>?_⟩;rw[f,<-Fp,oK]
theorem HC (a:Nat) (k:a<=4294967296):wE ((a:Int),())=some (List.replicate a (List.replicate a false),()):=by
 rw[<-ac.eq_iff];unfold wE;have j:e8=4294967296:=rfl;simp only[ac.bT];refine ac.mono (P:=λf=>f.1=List.replicate a (List.replicate a false)) ?_ (by rintro⟨l,_⟩ d;simp only at d;simp only[ac.af];rw[d]);refine ac.for (i0:=0) a (λe g=>g.1=List.replicate e (List.replicate a false)) rfl rfl (dQ _) ?_ ?_
 ·rintro e ⟨h,_⟩ _ i b;simp only at b;simp only[ac.bS,ac.bT,ac.af,ac.uH,ac.qK,de];refine⟨λ_=>⟨⟨U,U,U⟩,by rw[b];simp;omega,fo U,?_⟩,λc=>by simp at c;omega⟩;rw[b,List.replicate_succ']
 rintro⟨h,_⟩ b;simp only[ac.bS,ac.af];exact⟨λc=>by simp at c,λ_=>b⟩
section
def aE {α:Type} (b:Nat) (a:Nat->α):List α:=(List.range b).map a
def eH {α:Type} (b:Nat->α) (c:Nat) (d:α):Nat->α:=λa=>if a=c then d else b a
section
variable {α A B:Type}
theorem ir (c:Nat->α) (a:Nat) (b:α):eH c a b a=b:=if_pos rfl
theorem iq (b:Nat->α) (e:α) (d:a≠c):eH b c e a=b a:=if_neg d
theorem bv (a:Nat) (b:Nat->α):(aE a b).length=a:=by simp[aE]
theorem sl (c:Nat) (d:Nat->α) (b:Nat):(aE c d)[b]?=if b<c then some (d b) else none:=by
 unfold aE;rw[eS];rcases bp b c with a|a
 ·rw[oH a,if_pos a];rfl
 rw[fc (by simpa using a),if_neg U];rfl
theorem um {b:Nat->α} (d:a<c):(aE c b)[a]?=some (b a):=by rw[sl,if_pos d]
theorem gB {b:Nat->α} (d:a<(aE c b).length):(aE c b)[a]=b a:=by simp[aE]
theorem dz {c d:Nat->α} (e:∀b,b<a->c b=d b):aE a c=aE a d:=hW λb f=>e b (gN.1 f)
theorem HO (a:Nat->α):aE 0 a=[]:=rfl
theorem m4 (b:Nat) (a:Nat->α):aE (b+1) a=aE b a++[a b]:=by simp[aE,k3]
theorem iB (a:Nat) (b:α):List.replicate a b=aE a λ_=>b:=by apply g9;intro c;rw[ly,sl]
theorem gS {d:Nat->α} (f:α):(aE c d).set a f=aE c (eH d a f):=by
 apply g9;intro e;rw[pQ,sl,sl,bv];unfold eH;by_cases b:a=e
 ·subst b;simp
 have h:¬e=a:=λg=>b (Eq.symm g);simp only[if_neg b,if_neg h]
theorem TK (c:List α) (d:Nat->α) (e:∀a,(b:a<c.length)->c[a]=d a):c=aE c.length d:=by
 apply g9;intro a;rw[sl];split
 ·rename_i b;rw[bo b,e a b]
 rename_i b;exact fc U
theorem TL (d b:Nat) (c:Nat->α) (f:b<=d):(aE d c).take b=aE b c:=by
 apply g9;intro e;rw[rr,sl,sl];by_cases a:e<b
 ·rw[if_pos a,if_pos a,if_pos U]
 rw[if_neg a,if_neg a]
theorem eO (b:a<c):bx c (a:Int)=some a:=by unfold bx;rw[if_pos ⟨U,by simpa using b⟩];simp
theorem oP {d:List α} {c:α} {b:α->Option A} (e:d[a]?=some c):bi d a b=b c:=by unfold bi;rw[e]
theorem fj {b:Nat->α} {d:α->Option A} (e:a<c):bi (aE c b) a d=d (b a):=oP (um e)
theorem H8 {b:Nat->α} (d:a<c):ay (aE c b) (a:Int)=some (b a):=g4 (um d)
theorem dU (b:a<=4294967296):bK a=some ():=if_pos b
theorem gE (b:a<=4294967296):ej (a:Int) (a:Int)=some a:=by unfold ej;rw[if_pos ⟨U,U,by have:e8=4294967296:=rfl;omega⟩];simp
theorem uN:fH (a:Int)=some a:=by unfold fH;rw[if_pos U];simp
theorem w8 (b:c<=a/\a<=g):gh c a g=some ():=if_pos b
theorem KR (b:0<a):xH a=some ():=rfl
theorem dM (a b:Int):(a==b)=decide (a=b):=by by_cases c:a=b<;>simp[c]
theorem bY (a b:Int):(a !=b)=!decide (a=b):=by by_cases c:a=b<;>simp[c]
theorem az [Decidable m] (a:m):decide m=true:=decide_eq_true a
theorem aw [Decidable m] (a:¬m):decide m=false:=decide_eq_false a
theorem bc {a c:α} (b:i=true):(bif i then a else c)=a:=by rw[b];rfl
theorem a6 {c a:α} (b:i=false):(bif i then c else a)=a:=by rw[b];rfl
theorem bu [Decidable m] {a b:α}:(bif decide m then a else b)=if m then a else b:=by by_cases c:m<;>simp[c]
theorem Hi [Decidable m] {a b:α}:(bif decide m==true then a else b)=if m then a else b:=by by_cases c:m<;>simp[c]
theorem Hj [Decidable m] {a b:α}:(bif decide m==false then a else b)=if m then b else a:=by by_cases c:m<;>simp[c]
theorem aa9 (b:a<9223372036854775808):IntKind.i64.wrap (a:Int)=(a:Int):=wrap64 U U
theorem MH (c:1<=a) (b:a<9223372036854775808):IntKind.i64.wrap ((a:Int)-1)=((a-1:Nat):Int):=by rw[wrap64 U U];omega
theorem ri (b:a+1<9223372036854775808):IntKind.i64.wrap ((a:Int)+1)=((a+1:Nat):Int):=by rw[wrap64 U U];omega
end
theorem ac.of_eq {α:Type} {c:Option α} {a:α} {b:α->Prop} (d:c=some a) (e:b a):ac c b:=⟨a,d,e⟩
theorem ac.aU {α A:Type} {c:Option α} {b:α->Option A} {P:α->Prop} {a:A->Prop} (e:ac c P) (f:∀d,P d->ac (b d) a):ac (c.bind b) a:=
 ac.bT.2 (e.mono f)
theorem ac.ite {α:Type} [Decidable m] {c d:Option α} {b:α->Prop} (e:m->ac c b) (f:¬m->ac d b):ac (if m then c else d) b:=by
 by_cases a:m
 ·rw[if_pos a];exact e a
 rw[if_neg a];exact f a
theorem ai {α A:Type} {c:Option α} {a:α->Option A} {y:α} {b:Option A} (d:c=some y) (e:a y=b):c.bind a=b:=by rw[d];exact e
theorem xb {f:Int×k->Option ((Int×k)⊕q)} {g:q} {h:k} (d:Nat) (c:Nat->k) (e:Nat) (n:b=(e:Int)) (p:h=c e) (m:e<=d) (o:∀a,e<=a->a<d->f ((a:Int),c a)=some (.inl (((a+1:Nat):Int),c (a+1)))) (l:f ((d:Int),c d)=some (.inr g)):loop f (b,h)=some g:=by
 subst n p;rw[<-ac.eq_iff];refine ac.for d (λa r=>r=c a) rfl rfl m ?_ ?_
 ·rintro a _ i j rfl;rw[o a i j];exact ac.af.2 ⟨rfl,rfl⟩
 rintro _ rfl;rw[l];exact ac.af.2 rfl
theorem U5 {g:Int×Unit->Option cl} (e:Nat) (c:Nat->Prop) (k:∀a,a<e->g ((a:Int),())=some (open Classical in if c a then .inl (((a+1:Nat):Int),()) else .inr (.inr ((a:Int),())))) (j:g ((e:Int),())=some (.inr (.inl ()))):ac (loop g (0,())) (λl=>match l with|.inl _=>∀a,a<e->c a|.inr m=>0<=m.1/\¬∀a,a<e->c a):=by
 classical
 refine ac.for e (λa _=>∀b,b<a->c b) (i0:=0) rfl (λb d=>by omega) (dQ _) ?_ ?_
 ·rintro a ⟨⟩ _ i h;rw[k a i];by_cases f:c a
  ·rw[if_pos f];refine ac.af.2 ⟨rfl,λb n=>?_⟩;rcases bp b a with d|d
   ·exact h b d
   obtain rfl:b=a:=U;exact f
  rw[if_neg f];exact ac.af.2 ⟨by show(0:Int)<=(a:Int);omega,λd=>f (d a i)⟩
 rintro⟨⟩ h;rw[j];exact ac.af.2 h
end
theorem FD (a:Int):IntKind.u32.wrap a=a %4294967296:=by unfold IntKind.wrap;exact if_neg (ab:¬(false&&decide (a %4294967296>=(2147483648:Int)))=true)
theorem x6 (a:Int):IntKind.u64.wrap a=a %18446744073709551616:=by unfold IntKind.wrap;exact if_neg (ab:¬(false&&decide (a %18446744073709551616>=(9223372036854775808:Int)))=true)
theorem B7 (a:0<=b) (c:b<18446744073709551616):IntKind.u64.wrap b=b:=by rw[x6];omega
theorem FE (a:0<=b) (c:b<4294967296):IntKind.u32.wrap b=b:=by rw[FD];omega
theorem yJ (b:a<18446744073709551616):(BitVec.ofInt 64 (a:Int)).toNat=a:=by rw[BitVec.ofInt_natCast,BitVec.toNat_ofNat];exact Nat.mod_eq_of_lt b
theorem yI (b:a<4294967296):(BitVec.ofInt 32 (a:Int)).toNat=a:=by rw[BitVec.ofInt_natCast,BitVec.toNat_ofNat];exact Nat.mod_eq_of_lt b
theorem Gt (d:a<18446744073709551616) (e:c<18446744073709551616):dr .u64 (a:Int) (c:Int)=((a&&&c:Nat):Int):=by have b:((BitVec.ofInt 64 (a:Int))&&&(BitVec.ofInt 64 (c:Int))).toNat=a&&&c:=(by rw[BitVec.toNat_and,yJ d,yJ e]);have f:a&&&c<=a:=Nat.and_le_left;unfold dr;rw[show IntKind.u64.bits=64 from rfl,b];exact B7 U U
theorem Gs (d:a<4294967296) (e:c<4294967296):dr .u32 (a:Int) (c:Int)=((a&&&c:Nat):Int):=by have b:((BitVec.ofInt 32 (a:Int))&&&(BitVec.ofInt 32 (c:Int))).toNat=a&&&c:=(by rw[BitVec.toNat_and,yI d,yI e]);have f:a&&&c<=a:=Nat.and_le_left;unfold dr;rw[show IntKind.u32.bits=32 from rfl,b];exact FE U U
theorem Yi (b:a<18446744073709551616) (d:c<18446744073709551616):eA .u64 (a:Int) (c:Int)=((a|||c:Nat):Int):=by have e:(BitVec.ofInt 64 (a:Int)|||BitVec.ofInt 64 (c:Int)).toNat=a|||c:=(by rw[BitVec.toNat_or,yJ b,yJ d]);have f:a|||c<2^64:=Nat.or_lt_two_pow b d;unfold eA;rw[show IntKind.u64.bits=64 from rfl,e];exact B7 U U
theorem Yh (b:a<4294967296) (d:c<4294967296):eA .u32 (a:Int) (c:Int)=((a|||c:Nat):Int):=by have e:(BitVec.ofInt 32 (a:Int)|||BitVec.ofInt 32 (c:Int)).toNat=a|||c:=(by rw[BitVec.toNat_or,yI b,yI d]);have f:a|||c<2^32:=Nat.or_lt_two_pow b d;unfold eA;rw[show IntKind.u32.bits=32 from rfl,e];exact FE U U
theorem p2 (a:Nat) (d:0<=b) (i:b<18446744073709551616) (c:Int) (f:a<=64) (g:c=2^a-1):dr .u64 b c=b %2^a:=by obtain⟨k,rfl⟩:=ew d;have h:0<2^a:=ht a;have e:c=((2^a-1:Nat):Int):=(by rw[g,Int.natCast_sub h];simp);have j:2^a<=2^64:=nL aa f;rw[e,Gt U U,Nat.and_two_pow_sub_one_eq_mod];simp
theorem and_low32 (a:0<=b) (c:b<18446744073709551616):dr .u64 b 4294967295=b %4294967296:=p2 32 a c _ aa aa
theorem ln (a:Int):dk .u64 a 32=some (a/4294967296):=by have:dk .u64 a 32=some (a.fdiv 4294967296):=rfl;rw[this,ye _ aa]
theorem lU (a:0<=b) (c:b<=64):gn .u64 e b=some ((e*2^b.toNat) %18446744073709551616):=by unfold gn;rw[if_pos a,x6,show IntKind.u64.bits=64 from rfl,fR U]
theorem q8 (a:0<=b) (c:b<=64):dk .u64 e b=some (e/2^b.toNat):=by unfold dk;rw[if_pos a,show IntKind.u64.bits=64 from rfl,fR U,ye _ (by exact Int.pow_nonneg aa)]
theorem Gv (b:Nat) (d:a<2^b):a|||(c*2^b)=a+c*2^b:=by rw[Nat.add_comm,Nat.or_comm,jf,Nat.two_pow_add_eq_or_of_lt d]
theorem lh (a:Nat) (f:0<=b) (g:b<2^a) (h:0<=e) (m:b<18446744073709551616) (n:e<18446744073709551616) (j:e %2^a=0):eA .u64 b e=b+e:=by obtain⟨d,rfl⟩:=ew f;obtain⟨c,rfl⟩:=ew h;have l:d<2^a:=(by have:((d:Nat):Int)<((2^a:Nat):Int):=(by simpa using g);omega);have k:c %2^a=0:=(by have:((c %2^a:Nat):Int)=0:=(by simpa using j);omega);rw[Yi U U];have i:c=(c/2^a)*2^a:=(by have:=mQ c (2^a);rw[k,jf] at this;omega);rw[i,Gv a l];simp
def ax (a:Nat):Nat:=if a=0 then 0 else a.log2+1
theorem df {k:Nat}:ax a<=k↔a<2^k:=by
 unfold ax;split
 ·rename_i b;subst b;simp;exact ht k
 rename_i b;rw[<-Nat.log2_lt b];omega
theorem rL:a<ax c↔2^a<=c:=by rw[<-Nat.not_le,df,Nat.not_lt]
theorem KJ (a b:Nat) (c:a<=b):2^a<=2^b:=nL aa c
theorem xF (a b:Nat) (c:a<b):2^a<2^b:=Nat.pow_lt_pow_right aa c
theorem hJ (b:c<=a):ax c<=ax a:=by rw[df];have:=df.1 (a8 (ax a));omega
theorem nU {k l:Nat} (b:ax a<=k) (d:ax c<=l):ax (a*c)<=k+l:=by rw[df,gX];exact Nat.mul_lt_mul'' (df.1 b) (df.1 d)
theorem Jj {b:Nat} (d:c<=b*a) (e:g<a):c+g<=(b+1)*a:=by rw[eL,gw];omega
theorem GX (b:Nat) (d:ax a<=b) (e:ax c<=b):ax (a+c)<=b+1:=by rw[df] at*;rw[jg];omega
theorem YH {e:Nat} (d:g*2^c=a*2^e) (h:0<g):0<a:=by
 rcases h9 a with b|b
 ·rw[b,pV] at d;have:=ht c;rcases Nat.mul_eq_zero.1 d with f|f<;>omega
 exact b
theorem nV {m:Nat} (a:0<m):0<ax m:=rL.2 a
theorem RZ:ax 0=0:=rfl
theorem GY {k:Nat} (b:2^k<=a) (c:a<2^(k+1)):ax a=k+1:=by have:=rL.2 b;have:=df.2 c;omega
theorem tF (b:0<a):2^(ax a-1)<=a/\a<2^ax a:=
 ⟨rL.1 (by have:=nV b;omega),df.1 (a8 _)⟩
theorem k8 (d:0<a) (b:Nat):ax (a*2^b)=ax a+b:=by
 obtain⟨e,f⟩:=tF d;have h:=ht b;have i:=nV d;obtain⟨c,g⟩:∃c,ax a=c+1:=⟨ax a-1,U⟩;rw[g] at e f|-;rw[(U:c+1+b=(c+b)+1)];refine GY ?_ ?_
 ·rw[gX];exact gv _ (by simpa using e)
 rw[(U:c+b+1=(c+1)+b),gX];exact Nat.mul_lt_mul_of_pos_right f h
theorem oR (b a:Nat):ax (b/2^a)=ax b-a:=by
 have c:=ht a;apply Nat.le_antisymm
 ·rw[df,Nat.div_lt_iff_lt_mul c,<-gX];exact df.1 U
 rcases bp a (ax b) with d|d
 ·have:ax b-a-1<ax (b/2^a):=by
   rw[rL,yk c,<-gX];exact rL.1 U
  omega
 omega
def s4 (c:Bool) (b:Int) (d:Bool) (a:Int):Bool:=
 if a=1 then c else if a=2 then !c else if a=3 then false else decide (0<b)||(decide (b=0)&&d)
def iS (b a:Nat) (c:Bool):Int:=
 if 2*(b %2^a)<2^a then-1 else if 2^a<2*(b %2^a) then 1 else if c then 1 else 0
def gR (e:Bool) (a b:Nat) (c:Bool) (d:Int):Nat:=
 if a %2^b=0/\c=false then a/2^b
 else if s4 e (iS a b c) (decide (a/2^b %2=1)) d then a/2^b+1 else a/2^b
theorem Ee (b a c:Nat):b %2^(a+c)=(b/2^a %2^c)*2^a+b %2^a:=by rw[gX,Nat.mod_mul,Nat.add_comm,jf]
theorem Hq (b a c:Nat):b/2^(a+c)=b/2^a/2^c:=by rw[gX,Nat.div_div_eq_div_mul]
theorem SH (v:Bool) (d c f:Nat) (h:Bool) (u:Int) (B:0<f):gR v d (c+f) h u=gR v (d/2^c) f (h||decide (d %2^c≠0)) u:=by
 have s:=ht c;have r:=Nat.mod_lt d s;have w:¬(d %2^(c+f)=0/\h=false)->iS d (c+f) h=iS (d/2^c) f (h||decide (d %2^c≠0)):=by
  intro _;unfold iS;rw[Ee,gX];obtain⟨o,rfl⟩:∃o,f=o+1:=⟨f-1,U⟩;rw[jg];generalize A:d/2^c %(2^o*2)=a;generalize z:d %2^c=j at r|-;generalize y:2^o=g;generalize x:2^c=b at r s|-;rw[show b*(g*2)=2*(g*b) by grind,show 2*(a*b+j)=2*(a*b)+2*j by grind];rcases l3 a g with e|e|e
  ·have i:(a+1)*b<=g*b:=gv _ e;rw[eL] at i;have l:2*(a*b)+2*j<2*(g*b):=U;have m:2*a<g*2:=U;rw[if_pos l,if_pos m]
  ·subst e;have l:¬2*(a*b)+2*j<2*(a*b):=U;have m:¬2*a<a*2:=U;have p:¬a*2<2*a:=U;rw[if_neg l,if_neg m,if_neg p];by_cases t:j=0
   ·subst t;have n:¬2*(a*b)<2*(a*b)+2*0:=U;rw[if_neg n];simp
   have n:2*(a*b)<2*(a*b)+2*j:=U;rw[if_pos n];simp[t]
  have i:(g+1)*b<=a*b:=gv _ e;rw[eL] at i;have l:¬2*(a*b)+2*j<2*(g*b):=U;have m:2*(g*b)<2*(a*b)+2*j:=U;have p:¬2*a<g*2:=U;have n:g*2<2*a:=U;rw[if_neg l,if_pos m,if_neg p,if_pos n]
 have q:(d %2^(c+f)=0/\h=false)↔(d/2^c %2^f=0/\(h||decide (d %2^c≠0))=false):=by
  rw[Ee];cases h
  ·simp only[and_true,Bool.false_or,decide_eq_false_iff_not,ne_eq,Decidable.not_not];constructor
   ·intro e;have i:d %2^c=0:=U;refine⟨?_,i⟩;rw[i] at e;rcases Nat.mul_eq_zero.1 (by omega:d/2^c %2^f*2^c=0) with k|k
    ·exact k
    omega
   rintro⟨i,k⟩;rw[i,k];simp
  simp
 unfold gR;by_cases e:d %2^(c+f)=0/\h=false
 ·rw[if_pos e,if_pos (q.1 e),Hq]
 rw[if_neg e,if_neg (λk=>e (q.2 k)),w e,Hq]
def ku (b:Bool) (a:Int):Int:=if b then 9223372036854775808+a else a
def mB (a:Bool) (b:Int):Int:=
 if b=3\/(b=1/\a=false)\/(b=2/\a=true) then ku a 9218868437227405311 else ku a 9218868437227405312
def kR (a:Bool) (b:Nat) (c d:Int):Int:=
 if b<4503599627370496 then ku a b
 else if b=9007199254740992 then if c+1+1075>=2047 then mB a d else ku a ((c+1+1075)*4503599627370496)
 else if c+1075>=2047 then mB a d else ku a ((c+1075)*4503599627370496+(b-4503599627370496))
def bB (b:Nat) (a:Int):Int:=max (a+ax b-1-52) (-1074)
def h7 (d:Bool) (b:Nat) (a:Int) (e:Bool) (c:Int):Int:=
 if bB b a<=a then kR d (b*2^(a-bB b a).toNat) (bB b a) c
 else kR d (gR d b (bB b a-a).toNat e c) (bB b a) c
theorem aaN {m k:Nat} {e:Int} (a:k<ax m):bB (m/2^k) (e+k)=bB m e:=by unfold bB;rw[oR];congr 1;omega
theorem Lu {k:Nat} (g:k+53<ax a):h7 o a b i r=h7 o (a/2^k) (b+k) (i||decide (a %2^k≠0)) r:=by have f:=aaN (m:=a) (k:=k) (e:=b) U;have h:b+k<bB a b:=(by unfold bB;omega);unfold h7;rw[f,if_neg U,if_neg U];obtain⟨c,d⟩:∃c:Nat,bB a b-b=(k+c:Nat):=⟨(bB a b-b-k).toNat,U⟩;rw[d,(U:(bB a b-(b+k)).toNat=c),de,SH _ _ _ _ _ _ U]
def mu:Nat->Nat->Nat
 |0,_=>0
 |f+1,a=>if(2*mu f (a/4)+1)*(2*mu f (a/4)+1)<=a then 2*mu f (a/4)+1 else 2*mu f (a/4)
def bC (a:Nat):Nat:=mu (ax a) a
theorem Ux:∀{b n:Nat},n<4^b->mu b n*mu b n<=n/\n<(mu b n+1)*(mu b n+1):=by
 intro b
 induction b with
 |zero=>intro n c;simp at c;subst c;simp[mu]
 |succ b i=>
  intro n c;obtain⟨g,h⟩:=i (n:=n/4) (by rw[jg] at c;omega);unfold mu;generalize mu b (n/4)=a at g h|-;have aj:(2*a+1)*(2*a+1)=4*(a*a)+4*a+1:=(by grind);have e:(2*a+1+1)*(2*a+1+1)=4*((a+1)*(a+1)):=(by grind);have f:2*a*(2*a)=4*(a*a):=(by grind);split
  ·rename_i d;exact⟨d,by rw[e];omega⟩
  rename_i d;exact⟨by rw[f];omega,U⟩
theorem pd (a:Nat):bC a*bC a<=a/\a<(bC a+1)*(bC a+1):=by refine Ux ?_;have b:a<2^ax a:=df.1 (a8 _);exact gO b (Nat.pow_le_pow_left aa _)
theorem BO (d:a*a<=g) (e:g<(c+1)*(c+1)):a<=c:=by
 rcases bp c a with b|b
 ·have:=ia (show c+1<=a from b) (show c+1<=a from b);omega
 exact b
theorem AU (b:a*a<=c) (d:c<(a+1)*(a+1)):bC c=a:=by obtain⟨e,f⟩:=pd c;exact Nat.le_antisymm (BO e d) (BO b f)
theorem Iy (d c:Nat):bC (d*2^(2*c))/2^c=bC d:=by
 obtain⟨g,h⟩:=pd (d*2^(2*c));generalize bC (d*2^(2*c))=e at g h|-;have j:=ht c;rw[Nat.two_mul,gX] at g h;have f:=mQ e (2^c);have m:=Nat.mod_lt e j;generalize e/2^c=b at f|-;generalize e %2^c=k at f m;generalize 2^c=a at*;symm;refine AU ?_ ?_
 ·have i:(b*b)*(a*a)<=d*(a*a):=by
   refine da ?_ g;rw[<-f];have:a*b*(a*b)<=(a*b+k)*(a*b+k):=ia U U;grind
  exact Nat.le_of_mul_le_mul_right i (Nat.mul_pos j j)
 have i:d*(a*a)<((b+1)*(b+1))*(a*a):=(by refine gO h ?_;have l:e+1<=(b+1)*a:=(by rw[<-f];grind);have:=ia l l;grind);exact Nat.lt_of_mul_lt_mul_right i
abbrev nx:=Bool×cZ×Unit
abbrev MW:=Bool×nx×Int×Unit
def e6 (a:nx):Int:=if a.1 then-ae a.2.1 else ae a.2.1
def aG (a:Int):nx:=(decide (a<0),bL a.natAbs,())
theorem mK (a:Int):e6 (aG a)=a:=by unfold e6 aG;simp only[jS,decide_eq_true_eq];split<;>omega
theorem kK (a:Int):aI (aG a).2.1:=iA _
theorem Ax (a:Int):dp (aG a).2.1:=mm _
theorem gd (a:Int):ae (aG a).2.1=a.natAbs:=jS _
theorem uj:(aG b).2.1=[]↔b=0:=by show bL b.natAbs=[]↔_;rw[Dc];omega
theorem HE {neg:Bool} (b:aI d) (f:dp d):(neg&&decide (d≠[]),d,())=aG (e6 (neg,d,())):=by
 have h:=dx b;have c:d=bL (ae d).toNat:=dp.eq b f;have e:d=[]↔ae d=0:=⟨λa=>by rw[a];rfl,dp.zero b f⟩;unfold aG e6;cases neg
 ·simp only[Bool.false_and,Bool.false_eq_true,if_false];rw[show decide (ae d<0)=false from decide_eq_false U,(U:(ae d).natAbs=(ae d).toNat),<-c]
 simp only[Bool.true_and,if_true];rw[(U:(-ae d).natAbs=(ae d).toNat),<-c];congr 1;rw[decide_eq_decide];constructor
 ·intro a;have:=mt e.2 a;omega
 intro a g;have:=e.1 g;omega
def BX:Nat->Nat->Nat
 |0,_=>0
 |f+1,a=>if a %2=0 then BX f (a/2)+1 else 0
def bq (a:Nat):Nat:=if a=0 then 0 else BX (ax a) a
theorem aaH:∀{a n:Nat},0<n->n<2^a->∃b,n=(2*b+1)*2^BX a n:=by
 intro a
 induction a with
 |zero=>intro n e c;simp at c;omega
 |succ a g=>
  intro n e c;unfold BX;split
  ·rename_i d;obtain⟨b,f⟩:=g (n:=n/2) U (by rw[jg] at c;omega);refine⟨b,?_⟩;rw[jg,<-nK,<-f];omega
  rename_i d;exact⟨n/2,by simp;omega⟩
theorem rb {n:Nat} (b:0<n):∃a,n=(2*a+1)*2^bq n:=by unfold bq;rw[if_neg U];exact aaH b (df.1 (a8 _))
theorem JA:∀{s t a b:Nat},(2*a+1)*2^s=(2*b+1)*2^t->s=t/\a=b
 |0,0,a,b,c=>by simp at c;omega
 |0,t+1,a,b,c=>by rw[jg,<-nK] at c;simp at c;omega
 |s+1,0,a,b,c=>by rw[jg,<-nK] at c;simp at c;omega
 |s+1,t+1,a,b,c=>by rw[jg,<-nK,jg,<-nK] at c;obtain⟨e,d⟩:=JA (s:=s) (t:=t) (a:=a) (b:=b) U;exact⟨U,d⟩
theorem u9 {a:Nat} (b:c=(2*a+1)*2^g):bq c=g:=by have f:=ht g;have d:0<c:=(by rw[b];exact Nat.mul_pos U f);obtain⟨h,e⟩:=rb d;exact(JA (e.symm.trans b)).1
theorem Fy (e:0<c) (b:Nat):bq (c*2^b)=bq c+b:=by obtain⟨d,f⟩:=rb e;refine u9 (a:=d) ?_;rw[gX,<-nK,<-f]
theorem aaI {n:Nat} (a:0<n):n/2^bq n %2=1:=by
 obtain⟨d,b⟩:=rb a;have c:=ht (bq n)
 conv=>lhs;lhs;lhs;rw[b]
 rw[Nat.mul_div_cancel _ c];omega
theorem s3 {n:Nat} (b:0<n):bq n<ax n:=by
 obtain⟨a,c⟩:=rb b;rw[rL]
 conv=>rhs;rw[c]
 have:=gv (2^bq n) (U:1<=2*a+1);omega
theorem sx {n k:Nat} (f:0<n):k<=bq n↔n %2^k=0:=by
 obtain⟨e,b⟩:=rb f;constructor
 ·intro l;obtain⟨a,c⟩:∃a,bq n=a+k:=⟨bq n-k,U⟩;rw[c,gX,<-nK] at b
  conv=>lhs;rw[b]
  exact Nat.mul_mod_left _ _
 intro i;rcases bp (bq n) k with d|d
 ·exfalso;obtain⟨a,c⟩:∃a,k=bq n+(a+1):=⟨k-bq n-1,U⟩;have g:n=n/2^k*2^k:=(by have:=mQ n (2^k);rw[i,jf] at this;omega);have j:=ht (bq n);have h:(2*e+1)*2^bq n=(2*(n/2^k*2^a))*2^bq n:=by
   rw[<-b]
   conv=>lhs;rw[g,c,gX,jg]
   grind
  have:=Nat.eq_of_mul_eq_mul_right j h;omega
 exact d
def nr (b a:Int):Int:=b*2^a.toNat/2^(-a).toNat
def e9 (a b:Int):cT:=
 if a=0 then some 0
 else if b+bq a.natAbs< -65536\/65536<b+ax a.natAbs then none
 else some (nr a (b+65536))
def aR:cT->MW
 |none=>(true,(false,[],()),0,())
 |some a=>if a=0 then(false,(false,[],()),0,()) else(false,aG (a/2^bq a.natAbs),(bq a.natAbs:Int)-65536,())
def eK (a:Int):Prop:=ax a.natAbs<=131072
instance(a:Int):Decidable (eK a):=inferInstanceAs (Decidable (_<=_))
def k9 (a:Int):cT:=if eK a then some a else none
def dc (b:cT):Prop:=∀a,b=some a->eK a
theorem lg (b:Int) (a:Nat):(b*2^a).natAbs=b.natAbs*2^a:=by rw[Int.natAbs_mul,Int.natAbs_pow];rfl
theorem C6 (c:b.natAbs %2^a=0):b/2^a*2^a=b:=by have d:((2^a:Nat):Int)∣b:=Int.ofNat_dvd_left.2 (Nat.dvd_of_mod_eq_zero c);rw[(ab:(2:Int)^a=((2^a:Nat):Int))];exact Int.ediv_mul_cancel d
theorem xm (c:b.natAbs %2^a=0):(b/2^a).natAbs=b.natAbs/2^a:=by
 have d:=C6 c;have e:=ht a
 conv=>rhs;rw[<-d,lg,Nat.mul_div_cancel _ e]
theorem lT (b:Int) (a:Nat):nr b a=b*2^a:=by unfold nr;rw[de,(U:(-(a:Int)).toNat=0)];simp
theorem u4 (b:Int) (a:Nat):nr b (-(a:Int))=b/2^a:=by unfold nr;rw[Int.neg_neg,de,(U:(-(a:Int)).toNat=0)];simp
def a1 (a:Int):Int:=a/2^bq a.natAbs
def eh (a:Int):Int:=(bq a.natAbs:Int)-65536
theorem q1 (a:Int):a1 a*2^bq a.natAbs=a:=by
 rcases h9 a.natAbs with b|b
 ·obtain rfl:a=0:=U;rfl
 exact C6 ((sx b).1 (a8 _))
theorem Jx (a:b≠0):(a1 b).natAbs=b.natAbs/2^bq b.natAbs:=xm ((sx U).1 (a8 _))
theorem gK {v:Int} (b:v≠0):a1 v≠0:=λa=>by have:=q1 v;rw[a] at this;simp at this;exact b this.symm
theorem Jz (c:b≠0):bq (a1 b).natAbs=0:=by rw[Jx c];have:=aaI (n:=b.natAbs) U;exact u9 (a:=b.natAbs/2^bq b.natAbs/2) (by rw[Nat.pow_zero];omega)
theorem VX (a:b≠0):ax (a1 b).natAbs=ax b.natAbs-bq b.natAbs:=by rw[Jx a,oR]
theorem uP {v:Int}:a1 v<0↔v<0:=by
 have d:=q1 v;have c:(0:Int)<2^bq v.natAbs:=mN aa;constructor
 ·intro b;have:=Int.mul_neg_of_neg_of_pos b c;omega
 intro b;rcases gH (a1 v) 0 with a|a
 ·exact a
 have:=ls a (dL c);omega
theorem HG (a:b≠0):aR (some b)=(false,aG (a1 b),eh b,()):=by show(if b=0 then _ else _)=_;rw[if_neg a];rfl
theorem A7 {v:Int} (i:-65536<=b) (a:v=e*2^(b+65536).toNat):e9 e b=k9 v:=by
 obtain⟨d,g⟩:∃d:Nat,b+65536=d:=⟨(b+65536).toNat,U⟩;rw[g,de] at a;unfold e9 k9;by_cases f:e=0
 ·subst f;simp only[pP] at a;subst a;rw[if_pos rfl,if_pos (show eK 0 from(by decide:ax 0<=131072))]
 rw[if_neg f];have h:ax v.natAbs=ax e.natAbs+d:=(by rw[a,lg,k8 U]);by_cases c:eK v
 ·rw[if_pos c];unfold eK at c;rw[if_neg U,g,lT,a]
 rw[if_neg c];unfold eK at c;rw[if_pos U]
theorem Vu (a:eK b):e9 (a1 b) (eh b)=some b:=by
 by_cases c:b=0
 ·subst c;rfl
 rw[A7 (v:=b) (by unfold eh;omega) (by
  conv=>lhs;rw[<-q1 b]
  unfold eh;rw[(U:((bq b.natAbs:Int)-65536+65536).toNat=bq b.natAbs)])]
 exact if_pos a
theorem Ec (f a:Int):dc (e9 f a):=by
 intro i b;unfold e9 at b;split at b
 ·cases b;show ax 0<=_;decide
 split at b
 ·cases b
 rename_i g h;cases b;unfold eK;rcases Int.le_total 0 (a+65536) with e|e
 ·obtain⟨c,d⟩:∃c:Nat,a+65536=c:=⟨(a+65536).toNat,U⟩;rw[d,lT,lg,k8 U];omega
 obtain⟨c,d⟩:∃c:Nat,a+65536=-(c:Int):=⟨(-(a+65536)).toNat,U⟩;rw[d,u4,xm ((sx U).1 U),oR];omega
theorem G3 (b:Int):dc (k9 b):=by
 intro c a;unfold k9 at a;split at a
 ·cases a;assumption
 cases a
theorem KZ (c a d b:Nat) (f:0<a):c*2^d/a=c*2^(d+b)/a/2^b:=by have e:=ht b;rw[Nat.div_div_eq_div_mul,gX,<-nK,Nat.mul_div_mul_right _ _ e]
theorem YQ (d a c b:Nat) (m:0<a):d*2^c %a≠0↔(d*2^(c+b) %a≠0\/d*2^(c+b)/a %2^b≠0):=by
 have t:=ht b;have r:=mQ (d*2^c) a;have j:=mQ (d*2^(c+b)) a;have k:=mQ (d*2^(c+b)/a) (2^b);rw[<-KZ d a c b m] at k;generalize d*2^(c+b)/a=o at*;generalize d*2^c/a=g at*;generalize d*2^c %a=i at*;generalize d*2^(c+b) %a=h at*;generalize o %2^b=p at*;rw[gX] at j;generalize 2^b=e at*;generalize 2^c=v at*;have l:i*e=a*p+h:=(by have s:(a*g+i)*e=a*o+h:=(by rw[r,j,nK]);rw[<-k,eL,Nat.mul_add] at s;have w:a*g*e=a*(e*g):=(by grind);omega);constructor
 ·intro y;have x:0<i*e:=Nat.mul_pos U t;by_cases n:h=0
  ·right;intro u;subst u;subst n;simp at l;omega
  exact .inl n
 rintro f q;subst q;simp only[pV] at l;rcases f with f|f
 ·omega
 have:=Nat.mul_pos m (U:0<p);omega
def pq (a b c:Nat) (f:Bool) (d e:Int):Int:=h7 f (b*2^a/c) (d-a) (decide (b*2^a %c≠0)) e
theorem Bv (i:0<a) (e:0<c) (j:58+ax c<=ax a+g):58<=ax (a*2^g/c):=by
 rcases bp 57 (ax (a*2^g/c)) with b|b
 ·exact b
 exfalso;have d:a*2^g/c<2^57:=df.1 b;rw[Nat.div_lt_iff_lt_mul e] at d;have f:=(tF e).2;have h:a*2^g<2^57*2^ax c:=gO d (Nat.mul_le_mul_left _ (Nat.le_of_lt f));rw[<-gX,<-df,k8 i] at h;omega
theorem YO {f:Nat} (m:0<c) (h:0<g) (l:58+ax g<=ax c+a) (o:a<=f):pq f c g i b e=pq a c g i b e:=by obtain⟨d,rfl⟩:∃d,f=a+d:=⟨f-a,U⟩;unfold pq;have p:=Bv m h l;have j:=KZ c g a d h;have n:d+53<ax (c*2^(a+d)/g):=(by have:=oR (c*2^(a+d)/g) d;rw[<-j] at this;omega);rw[Lu (k:=d) n,<-j,(U:b-((a+d:Nat):Int)+d=b-a)];congr 1;rw[<-Bool.decide_or,decide_eq_decide];exact(YQ c g a d h).symm
theorem Z5 (b a:Nat):(bC b*bC b≠b)↔(bC (b*2^(2*a))*bC (b*2^(2*a))≠b*2^(2*a)\/bC (b*2^(2*a)) %2^a≠0):=by
 have g:=ht a;have i:=Iy b a;have f:=mQ (bC (b*2^(2*a))) (2^a);rw[i] at f;have e:2^(2*a)=2^a*2^a:=(by rw[Nat.two_mul,gX]);constructor
 ·intro c;by_cases h:bC (b*2^(2*a)) %2^a=0
  ·left;intro d;rw[h] at f;rw[<-f,e] at d;refine c (Nat.eq_of_mul_eq_mul_right (Nat.mul_pos g g) ?_);grind
  exact .inr h
 intro c d;have j:bC (b*2^(2*a))=bC b*2^a:=by
  refine AU ?_ ?_
  ·rw[e];conv=>rhs;rw[<-d]
   apply Nat.le_of_eq;grind
  conv=>lhs;rw[<-d]
  rw[e];grind
 rw[j] at c;rcases c with c|c
 ·refine c ?_
  conv=>rhs;rw[<-d]
  rw[e];grind
 exact c (Nat.mul_mod_left _ _)
def oh (a b:Nat) (c d:Int):Int:=h7 false (bC (b*2^a)) ((c-a)/2) (decide (bC (b*2^a)*bC (b*2^a)≠b*2^a)) d
theorem w4 (e:115<=ax a):58<=ax (bC a):=by
 rcases bp 57 (ax (bC a)) with b|b
 ·exact b
 exfalso;have c:bC a+1<=2^57:=df.1 b;have f:=(pd a).2;have g:=ia c c;have d:a<2^114:=(by have:2^57*2^57=2^114:=(by rw[<-gX]);omega);have:=df.2 d;omega
theorem Zt (h:0<g) (l:115<=ax g+a) (m:(b-a) %2=0):oh (a+2*c) g b e=oh a g b e:=by unfold oh;have n:58<=ax (bC (g*2^a)):=w4 (by rw[k8 h];omega);have f:=Iy (g*2^a) c;have j:=Z5 (g*2^a) c;rw[gX,<-nK];generalize g*2^a=d at*;have i:c+53<ax (bC (d*2^(2*c))):=(by have:=oR (bC (d*2^(2*c))) c;rw[f] at this;omega);rw[Lu (k:=c) i,f,(U:(b-((a+2*c:Nat):Int))/2+c=(b-a)/2)];congr 1;rw[<-Bool.decide_or,decide_eq_decide];exact j.symm
def xO (a b:Int):Int:=if a=0 then 0 else h7 (decide (a<0)) (a1 a).natAbs (eh a) false b
def li (a b:Nat):Nat:=59+ax b-ax a
def sR (a b c:Int):Int:=pq (li (a1 a).natAbs (a1 b).natAbs) (a1 a).natAbs (a1 b).natAbs (decide (a<0)!=decide (b<0)) (eh a-eh b) c
theorem YP {ko:Int} (c:b≠0) (d:e≠0) (f:li (a1 b).natAbs (a1 e).natAbs<=a):pq a (a1 b).natAbs (a1 e).natAbs (decide (b<0)!=decide (e<0)) (eh b-eh e) ko=sR b e ko:=by have g:=gK c;have h:=gK d;refine YO U U ?_ f;unfold li;omega
def im (a:Nat) (b:Int):Nat:=if(b-((118-ax a:Nat):Int)) %2=0 then 118-ax a else 118-ax a+1
def np (a b:Int):Int:=oh (im (a1 a).natAbs (eh a)) (a1 a).natAbs (eh a) b
theorem Zu {v ko:Int} {k:Nat} (i:0<v) (h:118<=ax (a1 v).natAbs+k) (f:(eh v-k) %2=0):oh k (a1 v).natAbs (eh v) ko=np v ko:=by have e:=gK (v:=v) U;unfold np;have a:(eh v-(im (a1 v).natAbs (eh v):Nat)) %2=0:=(by unfold im;split<;>omega);have g:im (a1 v).natAbs (eh v)<=k:=(by unfold im at a|-;split<;>rename_i c<;>simp only[c,if_true,if_false] at a<;>omega);obtain⟨b,d⟩:∃b,k=im (a1 v).natAbs (eh v)+2*b:=⟨(k-im (a1 v).natAbs (eh v))/2,U⟩;rw[d];refine Zt U ?_ a;unfold im;split<;>omega
theorem bM {b:List k} (c:a<b.length):ay b (a:Int)=some b[a]:=g4 (bo c)
theorem x5 (b:a<9223372036854775808):au (a:Int)=(a:Int):=wrap64 U U
theorem bf {x:Int} (a:-9223372036854775808<=x) (b:x<=9223372036854775807):au x=x:=wrap64 a b
theorem bg (b:a<9223372036854775807):aS (a:Int)=((a+1:Nat):Int):=by unfold aS;rw[wrap64 U U];simp
theorem bV {x:Int} (a:0<=x) (b:x<18446744073709551616):aF x=x:=B7 a b
theorem jz {x:Int} (a:0<=x) (b:x<4294967296):bX x=x:=FE a b
theorem nv (a:Int):bX a=a %4294967296:=FD a
theorem ka (a:Int):aF a=a %18446744073709551616:=x6 a
theorem pf (a:0<=b) (c:b<18446744073709551616):bX (dr IntKind.u64 b 4294967295)=b %4294967296:=by rw[and_low32 a c,jz U U]
theorem aW (a:List k):aq a=(a.length:Int):=rfl
theorem BM {b:List k} (e:a<=b.length):((some (0:Nat)).bind λc=>(fH (a:Int)).bind λd=>(gh c d b.length).map λ_=>(c,d))=some (0,a):=by rw[aM,uN,aM,w8 ⟨dQ _,e⟩];rfl
theorem mJ (o:aI d) (q:d.length<=100000000):gJ (d,())=some (fy d,()):=by
 unfold gJ;refine ac.eq_iff.1 ?_;refine ac.aU (P:=λp=>∃a:Nat,p.1=(a:Int)/\a<=d.length/\(∀b,a<=b->(j:b<d.length)->d[b]=0)/\dp (d.take a)) ?_ ?_
 ·refine ac.loop (λh=>∃a:Nat,h.1=(a:Int)/\a<=d.length/\(∀b,a<=b->(j:b<d.length)->d[b]=0)) (λh=>h.1.toNat) ⟨d.length,rfl,a8 _,λb c f=>by omega⟩ ?_;rintro⟨_,_⟩ ⟨a,rfl,c,f⟩;rcases a with _|a
  ·refine ac.af.2 ⟨0,rfl,dQ _,f,λk e=>by simp at e⟩
  have aj:au (((a+1:Nat):Int)-1)=(a:Int):=(by rw[bf U U];omega);have l:decide (((a+1:Nat):Int)>0)=true:=az U;simp only[aj,l,beq_self_eq_true,cond_true,bM (show a<d.length from c),aM];by_cases g:d[a]=0
  ·rw[dM,az g];refine ac.af.2 ⟨⟨a,rfl,U,λb j n=>?_⟩,?_⟩
   ·rcases bp a b with i|i
    ·exact f b i n
    obtain rfl:b=a:=U;exact g
   show(a:Int).toNat<((a+1:Nat):Int).toNat;omega
  rw[dM,aw g];refine ac.af.2 ⟨a+1,rfl,c,f,λk e=>?_⟩;rw[hq,bo c] at e;have e:(d.take a++[d[a]]).getLast?=some k:=e;rw[List.getLast?_concat] at e;cases e;exact g
 rintro⟨_,_⟩ ⟨a,rfl,c,f,m⟩;refine ac.of_eq (ai (BM c) rfl) ?_;show(List.drop 0 (List.take a d),())=_;rw[lu,Mg o c f m]
theorem vK (c:d.length<=100000000):r4 (d,())=some (d,()):=by
 unfold r4;have a:((bK (([]:cZ).length+d.length)).bind λ_=>some (([]++d:cZ),()))=some (d,()):=(by rw[dU (by simp;omega)];rfl);show mz d.length (some ([],())) ((bK (([]:cZ).length+d.length)).bind λ_=>some (([]++d:cZ),()))=_;unfold mz;rw[a];split
 ·rename_i b;obtain rfl:=lv b;rw[if_pos rfl]
 rfl
theorem pe:(aq d==0)=decide (d=[]):=by rw[dM,decide_eq_decide];show((d.length:Nat):Int)=0↔_;rw[<-Cg];omega
theorem tC (b:aI d) (f:d.length<=100000000):jQ (i,d,())=some (aG (e6 (i,d,())),()):=by
 unfold jQ;refine ai (mJ b f) ?_;have c:=HE (neg:=i) (Fv d) (Mf d);have e:e6 (i,fy d,())=e6 (i,d,()):=(by unfold e6;simp only[Fw b]);rw[<-e,<-c];simp only[pe,bu];split
 ·rename_i a;simp[a]
 rename_i a;simp[a]
theorem S1 (c:b.natAbs<2^(32*a)):(aG b).2.1.length<=a:=by refine o7 ?_;unfold aD;have d:(2^(32*a):Nat)=4294967296^a:=(by rw[Nat.pow_mul]);rw[d] at c;have:((4294967296^a:Nat):Int)=4294967296^a:=ab;omega
def Fit (a:Int):Prop:=(aG a).2.1.length<=31250
theorem HD (a:Nat) (c:ax b.natAbs<=32*a):(aG b).2.1.length<=a:=S1 (df.1 c)
theorem hA (a:ax b.natAbs<=1000000):Fit b:=HD 31250 U
theorem VT {b:nx} (c:aI b.2.1) (a:b.2.1.length<=100000000):zk (b,())=some (aG (e6 b),()):=by obtain⟨e,d,_⟩:=b;unfold zk;exact ai (vK a) (ai (tC c a) rfl)
theorem B4 (a:Bool) (b:cZ):e6 (!a,b,())=-e6 (a,b,()):=by unfold e6;cases a<;>simp
theorem Mu (b:aI d) (a:Bool):e6 (false,d,())=(e6 (a,d,())).natAbs:=by have:=dx b;unfold e6;cases a<;>simp<;>omega
theorem Jr (e:Fit b):qi (aG b,())=some (aG (-b),()):=by unfold qi;have a:(aG b).2.1.length<=100000000:=da e aa;refine ai (vK a) (ai (tC (kK b) a) ?_);have c:=B4 (aG b).1 (aG b).2.1;have d:=mK b;rw[c];show some (aG (-e6 (aG b)),())=_;rw[d]
theorem yu (d:Fit b):rY (aG b,())=some (aG b.natAbs,()):=by unfold rY;have a:(aG b).2.1.length<=100000000:=da d aa;refine ai (vK a) (ai (tC (kK b) a) ?_);rw[Mu (kK b) (aG b).1];have c:=mK b;show some (aG ((e6 (aG b)).natAbs:Int),())=_;rw[c]
theorem Md (c:Fit b):gJ ((aG b).2.1,())=some ((aG b).2.1,()):=by rw[mJ (kK b) (da c aa)];have a:=dp.eq (kK b) (Ax b);show some (bL (ae (aG b).2.1).toNat,())=_;rw[<-a]
def dH (a:Int):Int:=if a=0 then 0 else if a<0 then-1 else 1
theorem py {z:Int} (a:Fit z):mZ (aG z,())=some (dH z,()):=by
 unfold mZ;refine ai (Md a) ?_;simp only[pe,bu,uj];unfold dH;split
 ·rfl
 show(bif decide (z<0) then _ else _)=_;rw[bu];split<;>rfl
theorem ac.steps {j:k->Option (k⊕q)} {i:q->Prop} (h:Nat) (f:Nat->k->Prop) {n:k} (r:f 0 n) (v:∀c b,c<h->f c b->ac (j b) (λ|.inl l=>f (c+1) l|.inr a=>i a)) (u:∀b,f h b->ac (j b) (λ|.inl _=>False|.inr a=>i a)):ac (i9.loop j n) i:=by
 have x:∀g c b,c+g=h->f c b->∃a,h4 j (g+1) b=some a/\i a:=by
  intro g
  induction g with
  |zero=>
   intro c b p m;obtain rfl:c=h:=p;obtain⟨o,e,d⟩:=u b m;cases o with
   |inl l=>exact d.elim
   |inr a=>exact⟨a,by simp only[h4,e],d⟩
  |succ g w=>
   intro c b p m;obtain⟨o,e,d⟩:=v c b U m;cases o with
   |inl l=>
    obtain⟨a,s,t⟩:=w (c+1) l U d;exact⟨a,by rw[h4,e];exact s,t⟩
   |inr a=>exact⟨a,by simp only[h4,e],d⟩
 obtain⟨a,e,d⟩:=x h 0 n U r;exact⟨a,xc.2 ⟨_,e⟩,d⟩
theorem vb (c:cZ) (b:Nat):ae (c.take (b+1))=ae (c.take b)+aD b*c.getD b 0:=by
 rcases bp b c.length with a|a
 ·rw[fX a,iK,bo a];rfl
 rw[c9 U,c9 a,iK,fc a];simp
theorem aI.getD {b:cZ} (d:aI b) (c:Nat):0<=b.getD c 0/\b.getD c 0<4294967296:=by
 rcases bp c b.length with a|a
 ·rw[iK,bo a];exact d.get a
 rw[iK,fc a];exact⟨lZ _,aa⟩
theorem jo (b:a<d.length):d.getD a 0=d[a]:=by rw[iK,bo b];rfl
theorem mn (b:d.length<=a):d.getD a 0=0:=by rw[iK,fc b];rfl
theorem EP (s:aI d) (t:aI f) (y:d.length<=10000000) (z:f.length<=10000000):r1 (d,f,())=some (bL (ae d+ae f).toNat,()):=by
 unfold r1;refine ac.eq_iff.1 ?_;refine ac.aU (P:=λi=>∃m q,i=(m,q,())/\aI m/\aI q/\m.length<=10000000/\q.length<=m.length/\ae m+ae q=ae d+ae f) ?_ ?_
 ·simp only[bu];refine ac.ite (λh=>ac.af.2 ⟨f,d,rfl,t,s,z,?_,Int.add_comm _ _⟩) λh=>ac.af.2 ⟨d,f,rfl,s,t,y,?_,rfl⟩
  ·simp only[aW] at h;omega
  simp only[aW] at h;omega
 rintro _ ⟨e,k,rfl,B,C,K,D,w⟩;rw[<-w];clear w s t y z;dsimp only;have A:aS (aq e)=((e.length+1:Nat):Int):=bg U;have aj:ej 0 ((e.length+1:Nat):Int)=some 0:=(by unfold ej;rw[if_pos ⟨U,U,by have:e8=4294967296:=rfl;omega⟩];rfl);rw[A,aj];refine ac.aU (P:=λi=>∃a c,i=(a,c,())/\c.length=e.length/\aI c/\0<=a/\a<=1/\ae c+aD e.length*a=ae e+ae k) ?_ ?_
 ·refine ac.steps e.length (λb F=>∃a c,F=(a,(b:Int),c,())/\c.length=b/\aI c/\0<=a/\a<=1/\ae c+aD b*a=ae (e.take b)+ae (k.take b)) ⟨0,[],rfl,rfl,aI.nil,U,U,by simp[ae]⟩ ?_ ?_
  ·rintro b _ u ⟨a,c,rfl,l,n,o,r,p⟩;have J:=B.get u;have E:=C.getD b;have j:∃g,g=e[b]+a+k.getD b 0/\0<=g/\g<18446744073709551616/\g/4294967296<=1:=⟨_,rfl,U,U,U⟩;obtain⟨g,j,G,H,I⟩:=j;have v:decide ((b:Int)<aq e)=true:=az (by simp only[aW];omega);simp only[v,cond_true,bM u,aM];refine ac.aU (P:=λi=>i=(g/4294967296,c++[g %4294967296],())) ?_ ?_
   ·refine ac.aU (P:=λi=>i=(g,c,())) ?_ ?_
    ·simp only[bu];refine ac.ite (λh=>?_) λh=>?_
     ·have h:b<k.length:=(by simp only[aW] at h;omega);rw[bM h];rw[jo h] at j E;refine ac.af.2 ?_;rw[bV (x:=e[b]) U U,bV (x:=e[b]+a) U U,bV (x:=k[b]) U U,bV U U,j]
     have h:k.length<=b:=(by simp only[aW] at h;omega);rw[mn h] at j;refine ac.af.2 ?_;rw[bV (x:=e[b]) U U,bV (x:=e[b]+a) U U,j,Int.add_zero]
    rintro _ rfl;dsimp only;rw[dU (by simp;omega),pf G H,ln];exact ac.af.2 rfl
   rintro _ rfl;dsimp only;refine ac.af.2 ⟨g/4294967296,c++[g %4294967296],by rw[bg U],by simp[l],n.snoc U U,U,I,?_⟩;rw[ox,l,ga,fX u,vb];have:=Int.emod_add_mul_ediv g 4294967296;generalize g/4294967296=L at*;generalize g %4294967296=i at*;subst j;grind
  rintro _ ⟨a,c,rfl,l,n,o,r,p⟩;have v:decide ((e.length:Int)<aq e)=false:=aw (by simp only[aW];omega);simp only[v,cond_false];refine ac.af.2 ⟨a,c,rfl,l,n,o,r,?_⟩;rw[p,c9 (a8 _),c9 D]
 rintro _ ⟨a,c,rfl,l,n,o,r,p⟩;dsimp only;rw[dU (by simp;omega),jz o U];refine ac.of_eq (ai rfl (ai (mJ (n.snoc o U) (by simp;omega)) rfl)) ?_;show(fy (c++[a]),())=_;rw[fy,ox,l,p]
def g0 (b:cZ) (c:Nat):Prop:=∀a,c<=a->(d:a<b.length)->b[a]=0
theorem g0.kb (b a:Nat):g0 (List.replicate b (0:Int)) a:=λd _ c=>by simp
theorem g0.set {b:cZ} {a:Nat} (c:g0 b a) (e:Int):g0 (b.set a e) (a+1):=λd f g=>by rw[ru U];exact c d U _
theorem g0.Fe {j:Nat} (b:g0 d a) (f:Int) (g:j<a):g0 (d.set j f) a:=λe c h=>by rw[ru U];exact b e c _
theorem I3 (s:aI d) (t:aI f) (E:d.length<=10000000) (v:f.length<=d.length) (C:ae f<=ae d):tU (d,f,())=some (bL (ae d-ae f).toNat,()):=by
 unfold tU;refine ac.eq_iff.1 ?_;simp only[aW,gE (U:d.length<=4294967296),aM];refine ac.aU (P:=λi=>∃a b,i=(a,())/\a.length=d.length/\aI a/\0<=b/\b<=1/\ae a-aD d.length*b=ae d-ae f) ?_ ?_
 ·refine ac.steps d.length (λe y=>∃b a,y=(b,(e:Int),a,())/\a.length=d.length/\aI a/\g0 a e/\0<=b/\b<=1/\ae a-aD e*b=ae (d.take e)-ae (f.take e)) ⟨0,_,rfl,ab,aI.kb _,g0.kb _ _,U,U,by simp[ae,nu]⟩ ?_ ?_
  ·rintro e _ o ⟨b,a,rfl,j,h,q,m,n,l⟩;have D:=s.get o;have w:=t.getD e;obtain⟨c,k,z,A⟩:∃c,c=d[e]-b-f.getD e 0/\-4294967296<=c/\c<4294967296:=⟨_,rfl,U,U⟩;have p:decide ((e:Int)<(d.length:Int))=true:=az U;simp only[aW,p,cond_true,bM o,aM];refine ac.aU (P:=λi=>i=(-(c/4294967296),a.set e (c %4294967296),())) ?_ ?_
   ·refine ac.aU (P:=λi=>i=(c %18446744073709551616,a,())) ?_ ?_
    ·simp only[bu];refine ac.ite (λg=>?_) λg=>?_
     ·have g:e<f.length:=U;rw[bM g];rw[jo g] at k w;refine ac.af.2 ?_;simp only[ka];rw[k];congr 1;omega
     have g:f.length<=e:=U;rw[mn g] at k;refine ac.af.2 ?_;simp only[ka];rw[k];congr 1;omega
    rintro _ rfl;dsimp only;rw[pf U U,i5 U,ln];refine ac.af.2 ?_;rw[p2 1 U U 1 aa aa];have ar:c %18446744073709551616/4294967296 %2^1=-(c/4294967296):=(by rw[show(2:Int)^1=2 from rfl];omega);have x:c %18446744073709551616 %4294967296=c %4294967296:=U;rw[ar,x]
   rintro _ rfl;dsimp only;refine ac.af.2 ⟨-(c/4294967296),a.set e (c %4294967296),by rw[bg U],by simp[j],h.set U U,q.set _,U,U,?_⟩;rw[kW U,q e (Nat.le_refl _) U,ga,fX o,vb];have:=Int.emod_add_mul_ediv c 4294967296;generalize c/4294967296=F at*;generalize c %4294967296=i at*;subst k;grind
  rintro _ ⟨b,a,rfl,j,h,q,m,n,l⟩;have p:decide ((d.length:Int)<(d.length:Int))=false:=aw U;simp only[aW,p,cond_false];refine ac.af.2 ⟨a,b,rfl,j,h,m,n,?_⟩;rw[l,c9 (a8 _),c9 v]
 rintro _ ⟨a,b,rfl,j,h,m,n,l⟩;dsimp only;have r:=fb h;have B:=dV d.length;rw[j] at r;have u:b=0:=by
  rcases gH 0 b with g|g
  ·obtain rfl:b=1:=U;omega
  omega
 subst u;refine ac.of_eq (ai (mJ h U) rfl) ?_;show(fy a,())=_;rw[fy,<-l];simp
def dy (a b:Int):Int:=if a<b then-1 else if b<a then 1 else 0
theorem CM (a b:Int):tM (a,b,())=some (dy a b,()):=by
 unfold tM qe dy;simp only[bne_self_eq_false,aM,cond_false,bu];split
 ·rfl
 split
 ·rename_i c d
  first|rfl|(rw[if_pos U])
 first|rfl|(rename_i c d;rw[if_neg U])
theorem Sz (a b:Int):yT (a,b,())=some (dy a b,()):=by
 unfold yT yV dy;simp only[bne_self_eq_false,aM,cond_false,bu];split
 ·rfl
 split
 ·rename_i c d
  first|rfl|(rw[if_pos U])
 first|rfl|(rename_i c d;rw[if_neg U])
theorem B5 (i:aI d) (j:aI f) (k:a<d.length) (l:a<f.length) (c:ae (d.drop (a+1))=ae (f.drop (a+1))) (p:d[a]<f[a]):ae d<ae f:=by rw[mL d a U,mL f a U,j9 k,j9 l,c];have e:=fb (i.take a);have m:=dx (j.take a);rw[dX,fR U] at e;have n:aD a*(d[a]+1)<=aD a*f[a]:=hT U (dL (dV a));have o:aD a*(d[a]+1)=aD a*d[a]+aD a:=(by grind);have g:∀b,aD a*(d[a]+b)=aD a*d[a]+aD a*b:=λb=>(by grind);have h:∀b,aD a*(f[a]+b)=aD a*f[a]+aD a*b:=λb=>(by grind);rw[g,h];omega
theorem ow (c:aI f) (e:aI d) (g:dp d) (a:f.length<d.length):ae f<ae d:=by have h:=fb c;have i:=dp.low e g (by intro b;rw[b] at a;simp at a);have j:=nl (m:=f.length) (n:=d.length-1) U;omega
theorem yM (h:aI d) (i:aI f) (r:dp d) (s:dp f) (v:d.length<=10000000) (w:f.length<=10000000):r0 (d,f,())=some (dy (ae d) (ae f),()):=by
 unfold r0;refine ac.eq_iff.1 ?_;simp only[bY,aW];by_cases o:d.length=f.length
 ·rw[az (U:(d.length:Int)=f.length)];simp only[i6,cond_false];refine ac.aU (P:=λm=>match m with|.inl _=>ae d=ae f|.inr p=>p=(dy (ae d) (ae f),())) ?_ ?_
  ·refine ac.steps d.length (λc q=>q=(((d.length:Nat):Int)-1-c,())/\ae (d.drop (d.length-c))=ae (f.drop (d.length-c))) ⟨?_,?_⟩ ?_ ?_
   ·rw[bf U U];simp
   ·rw[nF U,nF U]
   ·rintro c _ t ⟨rfl,e⟩;obtain⟨a,u⟩:∃a,d.length=a+1+c:=⟨d.length-1-c,U⟩;have aj:((d.length:Nat):Int)-1-(c:Int)=(a:Int):=U;have k:a<d.length:=U;have l:a<f.length:=U;rw[(U:d.length-c=a+1)] at e;simp only[aj,az (U:(a:Int)>=0),cond_true,bM k,bM l,aM,Sz];by_cases j:d[a]=f[a]
    ·simp only[az j,i6,cond_false];refine ac.af.2 ⟨?_,?_⟩
     ·rw[bf U U];congr 1;omega
     rw[(U:d.length-(c+1)=a),j9 k,j9 l,j,e]
    simp only[aw j,kx,cond_true];refine ac.af.2 ?_;show(dy d[a] f[a],())=_;have n:dy d[a] f[a]=dy (ae d) (ae f):=by
     unfold dy;rcases Int.lt_or_gt_of_ne j with b|b
     ·rw[if_pos b,if_pos (B5 h i k l e b)]
     have:=B5 i h l k e.symm b;rw[if_neg U,if_pos b,if_neg U,if_pos this]
    rw[n]
   rintro _ ⟨rfl,e⟩;have aj:¬(((d.length:Nat):Int)-1-(d.length:Int)>=0):=U;simp only[aw aj,cond_false];refine ac.af.2 ?_;simpa using e
  rintro(m|m) g
  ·refine ac.af.2 ?_;have g:ae d=ae f:=g;unfold dy;rw[g];simp
  have g:m=_:=g;rw[g];exact ac.af.2 rfl
 rw[aw (U:¬(d.length:Int)=f.length)];simp only[kx,cond_true,CM,aM];refine ac.af.2 ?_;congr 1;unfold dy;rcases Nat.lt_or_gt_of_ne o with b|b
 ·rw[if_pos U,if_pos (ow h i s b)]
 have:=ow i h r b;rw[if_neg U,if_pos U,if_neg U,if_pos this]
theorem xl {x y:Int} (b:0<=x/\x<4294967296) (a:0<=y/\y<4294967296):0<=x*y/\x*y<=18446744065119617025:=by refine⟨ls b.1 a.1,?_⟩;have c:x*y<=4294967295*y:=kz U a.1;have d:(4294967295:Int)*y<=4294967295*4294967295:=hT U aa;omega
theorem ZA (G:0<=b/\b<4294967296) (F:aI d) (S:a+d.length<c) (R:c<=100000000) (C:f.length=c) (D:aI f) (I:g0 f (a+d.length)) {r:gZ->Prop} (E:∀h g,g.length=c->aI g->g0 g (a+d.length)->0<=h->h<4294967296->ae g+aD (a+d.length)*h=ae f+aD a*(b*ae d)->r (h,g,())):ac (loop (σ:=nQ) (ρ:=gZ) (λ(l,j,o,_)=>
 bif decide (j<aq d) then
 (ay d j).bind λy=>
 rd o (au ((a:Int)+j)) λz=>
 wr o (au ((a:Int)+j)) (bX (dr IntKind.u64 (aF (aF (aF (aF b*aF y)+aF z)+l)) 4294967295)) λP=>
 (dk IntKind.u64 (aF (aF (aF (aF b*aF y)+aF z)+l)) 32).bind λO=>
 some (.inl (O,aS j,P,())) else
 some (.inr (l,o,()))) (0,0,f,())) r:=by
 refine ac.steps d.length (λe M=>∃h g,M=(h,(e:Int),g,())/\g.length=c/\aI g/\g0 g (a+d.length)/\0<=h/\h<4294967296/\ae g+aD (a+e)*h=ae f+aD a*(b*ae (d.take e))) ⟨0,f,rfl,C,D,I,U,U,by simp[ae]⟩ ?_ ?_
 ·rintro e _ m ⟨h,g,rfl,ar,k,p,t,u,q⟩;have H:=F.get m;have V:=k.get (n:=a+e) U;have T:=xl G H;obtain⟨i,s,v,w⟩:∃i,i=b*d[e]+g[a+e]+h/\0<=i/\i<18446744073709551616:=⟨_,rfl,U,U⟩;simp only[az (show(e:Int)<aq d by simp only[aW];omega),cond_true,bM m,aM];have aj:au ((a:Int)+(e:Int))=((a+e:Nat):Int):=(by rw[bf U U];simp);rw[aj,jv U];have A:aF (aF (aF (aF b*aF d[e])+aF g[a+e])+h)=i:=by
   rw[bV (x:=b) U U,bV (x:=d[e]) U U,bV (x:=g[a+e]) U U,bV (x:=b*d[e]) U U,bV (x:=b*d[e]+g[a+e]) U U,<-s,bV v w]
  rw[A,pf v w,i5 U,ln];refine ac.af.2 ⟨i/4294967296,g.set (a+e) (i %4294967296),by rw[bg U],by simp[ar],k.set U U,p.Fe _ U,U,U,?_⟩;rw[kW U,(U:a+(e+1)=(a+e)+1),ga,fX m];have Q:=g8 i 4294967296;rw[rm] at q|-;generalize i/4294967296=K at*;generalize i %4294967296=L at*;generalize g[a+e]=J at*;generalize d[e]=N at*;subst s;have B:L=b*N+J+h-4294967296*K:=U;subst B;grind
 rintro _ ⟨h,g,rfl,ar,k,p,t,u,q⟩;simp only[aw (show¬((d.length:Int)<aq d) by simp only[aW];omega),cond_false];refine ac.af.2 (E h g ar k p t u ?_);rw[q,c9 (a8 _)]
theorem aaB (w:aI f) (x:aI d) (z:f.length<=10000000) (A:d.length<=10000000):zp (f,d,())=some (bL (ae f*ae d).toNat,()):=by
 unfold zp;refine ac.eq_iff.1 ?_;simp only[pe];refine ac.aU (P:=λo=>match o with|.inl _=>f≠[]/\d≠[]|.inr h=>h=(bL (ae f*ae d).toNat,())) ?_ ?_
 ·by_cases i:f=[]
  ·simp only[az i];refine ac.af.2 ?_;subst i;simp[ae];rfl
  simp only[aw i,beq_self_eq_true,cond_true];by_cases j:d=[]
  ·simp only[az j,cond_true];refine ac.af.2 ?_;subst j;simp[ae];rfl
  simp only[aw j,cond_false];exact ac.af.2 ⟨i,j⟩
 rintro(o|o) k
 rotate_left
 ·have k:o=_:=k;subst k;exact ac.af.2 rfl
 clear k;dsimp only;have v:au (aq f+aq d)=((f.length+d.length:Nat):Int):=(by simp only[aW];rw[bf U U];simp);rw[v,gE U,Option.bind_some];refine ac.aU (P:=λh=>∃a,h=(a,())/\a.length=f.length+d.length/\aI a/\ae a=ae f*ae d) ?_ ?_
 ·refine ac.steps f.length (λb y=>∃a,y=((b:Int),a,())/\a.length=f.length+d.length/\aI a/\g0 a (b+d.length)/\ae a=ae (f.take b)*ae d) ⟨_,rfl,ab,aI.kb _,g0.kb _ _,by simp[ae,nu]⟩ ?_ ?_
  ·rintro b _ q ⟨a,rfl,ar,g,p,u⟩;simp only[az (show(b:Int)<aq f by simp only[aW];omega),cond_true,bM q,Option.bind_some];refine ac.aU (P:=λh=>∃e c,h=(e,c,())/\c.length=f.length+d.length/\aI c/\g0 c (b+d.length)/\0<=e/\e<4294967296/\ae c+aD (b+d.length)*e=ae a+aD b*(f[b]*ae d)) (ZA (w.get q) x U U ar g p λe c r s l m n t=>⟨e,c,rfl,r,s,l,m,n,t⟩) ?_;rintro _ ⟨e,c,rfl,r,s,l,m,n,t⟩;have aj:au ((b:Int)+aq d)=((b+d.length:Nat):Int):=(by simp only[aW];rw[bf U U];simp);dsimp only;rw[aj,jz m n,i5 U];refine ac.af.2 ⟨c.set (b+d.length) e,by rw[bg U],by simp[r],s.set m n,?_,?_⟩
   ·rw[(U:b+1+d.length=b+d.length+1)];exact l.set _
   rw[kW U,l _ (a8 _) U,fX q,Int.sub_zero,t,u];grind
  rintro _ ⟨a,rfl,ar,g,p,u⟩;simp only[aw (show¬((f.length:Int)<aq f) by simp only[aW];omega),cond_false];refine ac.af.2 ⟨a,rfl,ar,g,?_⟩;rw[u,c9 (a8 _)]
 rintro _ ⟨a,rfl,ar,g,p⟩;refine ac.of_eq (ai (mJ g (by show a.length<=_;omega)) rfl) ?_;show(fy a,())=_;rw[fy,p]
theorem UX:∀a:Nat,a<256->ou AY (a:Int)=some (ax a:Int):=by have b:(List.range 256).all (λa=>ou AY (a:Int)==some (ax a:Int))=true:=(by decide+kernel);intro a c;have:=eI.1 b a (gN.2 c);exact eq_of_beq this
theorem Fg {x y:Int} (a:0<=y) (b:y<=32):dk .u32 x y=some (x/2^y.toNat):=by unfold dk;rw[if_pos a,show IntKind.u32.bits=32 from rfl,fR U,ye _ (by exact Int.pow_nonneg aa)]
theorem LU (a:0<=b) (c:b<=32):gn .u32 e b=some ((e*2^b.toNat) %4294967296):=by unfold gn;rw[if_pos a,FD,show IntKind.u32.bits=32 from rfl,fR U]
theorem aba (a:0<=b) (c:b<256):IntKind.u8.wrap b=b:=by unfold IntKind.wrap;refine(if_neg (ab:¬(false&&decide (b %256>=(128:Int)))=true)).trans ?_;show b %256=b;omega
theorem GZ {n k:Nat} (a:2^k<=n):ax n=ax (n/2^k)+k:=by rw[oR];have:=rL.2 a;omega
theorem DY {n:Nat} (i:n<4294967296):tV ((n:Int),())=some ((ax n:Int),()):=by
 unfold tV;refine ac.eq_iff.1 ?_;refine ac.aU (P:=λe=>∃a b:Nat,e=((a:Int),(b:Int),())/\a<65536/\ax n=ax a+b/\b<=16) ?_ ?_
 ·simp only[bu];refine ac.ite (λf=>?_) λf=>?_
  ·rw[Fg aa aa];refine ac.af.2 ⟨n/2^16,16,?_,U,GZ U,U⟩;simp
  exact ac.af.2 ⟨n,0,rfl,U,rfl,U⟩
 rintro _ ⟨a,b,rfl,f,g,j⟩;refine ac.aU (P:=λe=>∃a b:Nat,e=((a:Int),(b:Int),())/\a<256/\ax n=ax a+b/\b<=24) ?_ ?_
 ·simp only[bu];refine ac.ite (λc=>?_) λc=>?_
  ·rw[Fg aa aa];refine ac.af.2 ⟨a/2^8,b+8,?_,U,by have:=GZ (n:=a) (k:=8) U;omega,U⟩;rw[wrap64 U U];simp
  exact ac.af.2 ⟨a,b,rfl,U,g,U⟩
 rintro _ ⟨d,o,rfl,c,h,l⟩;dsimp only;rw[aba U U,UX d c];refine ac.af.2 ?_;have m:ax d<=8:=df.2 U;rw[wrap64 (x:=(ax d:Int)) U U,wrap64 U U,h];congr 1;omega
theorem RY {l:cZ} {x:Int} (g:aI l) (p:0<x):ax (ae l+aD l.length*x).toNat=32*l.length+ax x.toNat:=by
 obtain⟨b,rfl⟩:=ew (dL p);obtain⟨d,o⟩:=ew (dx g);have f:=fb g;rw[o] at f|-;have n:aD l.length=((2^(32*l.length):Nat):Int):=(by unfold aD;rw[Nat.pow_mul];simp);rw[n] at f|-;generalize 32*l.length=a at*;have h:0<b:=U;have j:((d:Int)+((2^a:Nat):Int)*(b:Int)).toNat=d+2^a*b:=(by rw[<-jF,<-Int.natCast_add];rfl);show ax ((d:Int)+((2^a:Nat):Int)*(b:Int)).toNat=_;rw[j];obtain⟨e,i⟩:=tF h;have q:=nV h;obtain⟨c,m⟩:∃c,ax b=c+1:=⟨ax b-1,U⟩;show _=a+ax b;rw[m] at e i|-;have r:d<2^a:=U;refine GY (k:=a+c) ?_ ?_
 ·rw[gX];have:=Nat.mul_le_mul_left (2^a) e;simp only[tr] at this;omega
 rw[jg,gX] at*;have:=Nat.mul_le_mul_left (2^a) (U:b+1<=2^c*2);rw[Nat.mul_add,Nat.mul_one,<-nK] at this;omega
theorem DZ (c:aI d) (h:dp d) (k:d.length<=10000000):tT (d,())=some ((ax (ae d).toNat:Int),()):=by
 unfold tT;simp only[pe,bu];split
 ·rename_i a;subst a;rfl
 rename_i a;have m:0<d.length:=yi.2 a;have aj:au (aq d-1)=((d.length-1:Nat):Int):=(by simp only[aW];rw[bf U U];omega);rw[aj,bM U];have e:=c.get (n:=d.length-1) U;have i:d[d.length-1]≠0:=h _ (by rw[List.getLast?_eq_getElem?,bo U]);have f:ae d=ae (d.take (d.length-1))+aD (d.length-1)*d[d.length-1]:=(by rw[<-fX U,c9 U]);have b:=RY (l:=d.take (d.length-1)) (x:=d[d.length-1]) (c.take _) U;rw[dX,fR U,<-f] at b;rw[b];obtain⟨n,g⟩:=ew e.1;rw[g] at e|-;refine ai rfl (ai (DY (n:=n) U) ?_);have j:ax n<=32:=df.2 U;show some (au (au (((d.length-1:Nat):Int)*32)+(ax n:Int)),())=_;rw[bf (x:=((d.length-1:Nat):Int)*32) U U,bf U U];congr 2;show _=((32*(d.length-1)+ax n:Nat):Int);omega
theorem rK (a:Fit b):oW (aG b,())=some ((ax b.natAbs:Int),()):=by unfold oW;refine ai (Md a) (ai (DZ (kK b) (Ax b) (da a aa)) ?_);rw[gd];rfl
theorem U8 (h:g=(2*c+1)*2^a) (q:g<2^32):g&&&(2^32-g)=2^a:=by
 have l:=ht a;have r:0<g:=(by rw[h];exact Nat.mul_pos U l);obtain⟨e,i⟩:∃e,g=e+1:=⟨g-1,U⟩;have p:e=2^a*(2*c)+(2^a-1):=(by have:e+1=2^a*(2*c)+2^a:=(by rw[<-i,h];grind);omega);have o:g=2^a*(2*c+1)+0:=(by rw[h,jf];rfl);refine Nat.eq_of_testBit_eq λb=>?_;rw[Nat.testBit_and,i,Nat.testBit_two_pow_sub_succ U,<-i];have aj:g.testBit b=if b<a then false else(2*c+1).testBit (b-a):=by rw[o,Nat.testBit_two_pow_mul_add _ l];simp
 have m:e.testBit b=if b<a then(2^a-1).testBit b else(2*c).testBit (b-a):=by rw[p,Nat.testBit_two_pow_mul_add _ U]
 rw[aj,m,yl];by_cases f:b<a
 ·rw[if_pos f];simp only[Bool.false_and];exact(decide_eq_false U).symm
 rw[if_neg f,if_neg f];by_cases k:a=b
 ·subst k;have d:a<32:=by
   rcases bp a 32 with d|d
   ·exact d
   have:=nL (aa:1<=2) d;have s:=gv (2^a) (U:1<=2*c+1);omega
  simp[d]
 obtain⟨j,n⟩:∃j,b-a=j+1:=⟨b-a-1,U⟩;rw[n,Nat.testBit_succ,Nat.testBit_succ,(U:(2*c+1)/2=c),(U:2*c/2=c),decide_eq_false k];cases c.testBit j<;>simp
theorem R6:∀a:Nat,a<32->ay nW (2^a*125613361 %4294967296/2^(27:Int).toNat)=some (a:Int):=by have b:(List.range 32).all (λa=>ay nW (2^a*125613361 %4294967296/2^(27:Int).toNat)==some (a:Int))=true:=(by decide+kernel);intro d c;have:=eI.1 b d (gN.2 c);exact eq_of_beq this
theorem Mm (e:0<a) (c:a<4294967296) (b:Int):bX (dr IntKind.u32 (a:Int) (bX (0-(a:Int)))*b)=2^bq a*b %4294967296:=by obtain⟨g,f⟩:=rb e;have aj:bX (0-(a:Int))=((2^32-a:Nat):Int):=(by rw[nv];omega);have d:((2^bq a:Nat):Int)=2^bq a:=ab;rw[aj,Gs c U,U8 f c,nv,d]
theorem Mn {n:Nat} (b:0<n) (a:n<4294967296):tW ((n:Int),())=some ((bq n:Int),()):=by have e:bq n<32:=gO (s3 b) (df.2 a);have d:=R6 _ e;have c:=Fg (x:=bX (dr IntKind.u32 (n:Int) (bX (0-(n:Int)))*125613361)) (y:=27) aa aa;rw[Mm b a 125613361] at c;unfold tW;show(bif (n:Int)==0 then some (32,()) else(dk IntKind.u32 (bX (dr IntKind.u32 (n:Int) (bX (0-(n:Int)))*125613361)) 27).bind λf=>(ay nW f).bind λg=>some (au g,()))=_;rw[a6 (by rw[dM];exact aw U),Mm b a 125613361,c];refine ai rfl (ai d ?_);rw[bf U U]
theorem Mo {x:Int} (r:ae (d.take c)=0) (g:c<d.length) (h:aI d) (s:d[c]≠0):bq (ae d).toNat=32*c+bq (d[c]).toNat:=by
 have q:=h.get g;rw[mL d c U,r,j9 g];have p:=dx (h.drop (c+1));generalize ae (d.drop (c+1))=u at*;generalize d[c]=v at*;obtain⟨b,rfl⟩:=ew q.1;obtain⟨e,rfl⟩:=ew p;have i:0<b:=U;obtain⟨j,m⟩:=rb i;have t:bq b<32:=gO (s3 i) (df.2 U);have o:aD c=((2^(32*c):Nat):Int):=(by unfold aD;rw[Nat.pow_mul];simp);have k:(0+aD c*((b:Int)+4294967296*(e:Int))).toNat=(b+4294967296*e)*2^(32*c):=(by rw[o,Int.zero_add,jf (b+4294967296*e)];have:((2^(32*c):Nat):Int)*((b:Int)+4294967296*(e:Int))=((2^(32*c)*(b+4294967296*e):Nat):Int):=(by rw[jF];simp);rw[this];rfl);show bq (0+aD c*((b:Int)+4294967296*(e:Int))).toNat=32*c+bq b;rw[k,Fy U,Nat.add_comm];congr 1;obtain⟨f,n⟩:∃f,32=bq b+(f+1):=⟨31-bq b,U⟩;refine u9 (a:=j+2^f*e) ?_;have l:(4294967296:Nat)=2^bq b*(2^f*2):=by
  have:(4294967296:Nat)=2^32:=rfl;rw[this]
  conv=>lhs;rw[n]
  rw[gX,jg]
 rw[l]
 conv=>lhs;lhs;rw[m]
 grind
theorem Mp {z:Int} (o:Fit z) (r:z≠0):v8 (aG z,())=some ((bq z.natAbs:Int),()):=by
 unfold v8;dsimp only;have i:=kK z;have u:=gd z;have s:(aG z).2.1.length<=31250:=o;generalize(aG z).2.1=b at*;have m:z.natAbs=(ae b).toNat:=U;rw[m];refine ac.eq_iff.1 (ac.aU (P:=λh=>match h with|.inl _=>False|.inr p=>p=((bq (ae b).toNat:Int),())) ?_ ?_)
 ·refine ac.steps b.length (λa q=>q=((a:Int),())/\ae (b.take a)=0) ⟨rfl,rfl⟩ ?_ ?_
  ·rintro a _ f ⟨rfl,e⟩;have j:=i.get f;simp only[az (show(a:Int)<aq b by simp only[aW];omega),cond_true,bM f,aM,bY];by_cases c:b[a]=0
   ·simp only[az c,i6,cond_false];refine ac.af.2 ⟨by rw[bg U],?_⟩;rw[fX f,c,e];simp
   simp only[aw c,kx,cond_true];have k:=Mo (x:=0) e f i c;rw[k];obtain⟨d,l⟩:=ew j.1;rw[l] at j c|-;have t:bq d<32:=gO (s3 U) (df.2 U);refine ac.of_eq (ai (Mn (n:=d) U U) rfl) ?_;show(au (au ((a:Int)*32)+(bq d:Int)),())=_;rw[bf (x:=(a:Int)*32) U U,bf U U];congr 1;show _=((32*a+bq d:Nat):Int);omega
  rintro _ ⟨rfl,e⟩;exfalso;rw[c9 (a8 _)] at e;omega
 rintro(h|h) g
 ·exact g.elim
 have g:h=_:=g;rw[g];exact ac.af.2 rfl
theorem iI (a:Nat):((2^a:Nat):Int)=(2:Int)^a:=by simp
theorem h6 (a:Nat):(0:Int)<2^a:=mN aa
theorem sQ (b:a<=31):(2:Int)^a<=2147483648:=by have c:=nL (aa:0<2) b;rw[<-iI];omega
theorem sP {p:Nat} (a:p<=32):(4294967296:Int)=2^p*2^(32-p):=by rw[<-jb,(U:p+(32-p)=32)];rfl
theorem oA (a:Nat):aD a=2^(32*a):=by unfold aD;rw[Int.pow_mul];rfl
theorem Yj {k:Nat} {x y:Int} (j:k<=32) (e:0<=x) (f:x<2^k) (g:0<=y) (o:y<4294967296) (i:y %2^k=0):eA .u32 x y=x+y/\x+y<4294967296:=by
 have c:=h6 k;have u:=sP j;have t:=h6 (32-k);have s:y=2^k*(y/2^k):=(by have:=g8 y (2^k);omega);have r:y/2^k<2^(32-k):=by
  rcases gH (y/2^k) (2^(32-k)) with b|b
  ·exact b
  have:=hT b (dL c);omega
 have q:2^k*(y/2^k+1)<=2^k*2^(32-k):=hT U (dL c);have p:(2:Int)^k*(y/2^k+1)=2^k*(y/2^k)+2^k:=(by grind);have n:x+y<4294967296:=U;refine⟨?_,n⟩;obtain⟨d,rfl⟩:=ew e;obtain⟨a,rfl⟩:=ew g;have m:d<2^k:=(by have:((d:Nat):Int)<((2^k:Nat):Int):=(by simpa using f);omega);have l:a %2^k=0:=(by have:((a %2^k:Nat):Int)=0:=(by simpa using i);omega);rw[Yh U U];have h:a=(a/2^k)*2^k:=(by have:=mQ a (2^k);rw[l,jf] at this;omega);rw[h,Gv k m];simp
theorem B0 {a:cZ} {n:Nat} (F:aI a) (Y:a.length<=10000000) (W:n<=100000000):r2 (a,(n:Int),())=some (bL (ae a*2^n).toNat,()):=by
 unfold r2;simp only[pe,bu];split
 ·rename_i h;subst h;simp[ae];rfl
 refine ac.eq_iff.1 ?_;obtain⟨b,e,K,X,I,J⟩:∃b e:Nat,n=32*b+e/\e<32/\gm IntKind.i64 (n:Int) 32=some (b:Int)/\gU (n:Int) 32=some (e:Int):=by
  refine⟨n/32,n %32,U,U,?_,?_⟩
  ·unfold gm;rw[if_pos aa,vq U,wrap64 U U];simp
  unfold gU;rw[if_pos aa,yg U];simp
 have l:=h6 e;have E:=sP (p:=e) U;have w:aS (au ((b:Int)+aq a))=((b+a.length+1:Nat):Int):=(by simp only[aW];rw[bf U U,(ab:(b:Int)+(a.length:Int)=((b+a.length:Nat):Int)),bg U]);rw[I,J,aM,aM,w,gE U,aM];refine ac.aU (P:=λq=>∃d,q=(d,())/\d.length=b+a.length+1/\aI d/\ae d=aD b*(2^e*ae a)) ?_ ?_
 ·refine ac.steps a.length (λc M=>∃d,M=((c:Int),d,())/\d.length=b+a.length+1/\aI d/\g0 d (b+c+1)/\(∀h:b+c<d.length,d[b+c]<2^e)/\ae d=aD b*(2^e*ae (a.take c))) ⟨_,rfl,ab,aI.kb _,g0.kb _ _,λh=>by simp;exact l,by simp[ae,nu]⟩ ?_ ?_
  ·rintro c _ m ⟨d,rfl,ar,g,i,t,o⟩;have s:=F.get m;have G:=g.get (n:=b+c) U;have H:=t U;dsimp only;rw[if_pos (show(c:Int)<aq a by simp only[aW];omega),bM m,Option.bind_some];have aj:au ((b:Int)+(c:Int))=((b+c:Nat):Int):=(by rw[bf U U];simp);have V:a[c]*2^e<4294967296*2^e:=Int.mul_lt_mul_of_pos_right s.2 l;have T:(2:Int)^e<=2147483648:=sQ U;obtain⟨f,r,N,O⟩:∃f,f=a[c]*2^e/\0<=f/\f<18446744073709551616:=⟨_,rfl,Int.mul_nonneg s.1 (Int.le_of_lt l),U⟩;have z:gn IntKind.u64 (aF a[c]) (aF (e:Int))=some f:=by
    rw[bV (x:=a[c]) U U,bV (x:=(e:Int)) U U,lU U U,de,<-r];congr 1;omega
   have A:f %4294967296 %2^e=0:=(by rw[Int.emod_emod_of_dvd _ ⟨_,E⟩,r,Int.mul_emod_left]);have B:f/4294967296<2^e:=(by refine oC aa ?_;rw[gW];omega);obtain⟨C,R⟩:=Yj (k:=e) (x:=d[b+c]) (y:=f %4294967296) U G.1 H U U A;rw[z];simp only[aM];rw[aj,jv U,pf N O,C,i5 U,ln,aM,bg U,jz U U,i5 (by simp;omega)];refine ac.af.2 ⟨(d.set (b+c) (d[b+c]+f %4294967296)).set (b+c+1) (f/4294967296),by rw[bg U],by simp[ar],(g.set U U).set U U,?_,?_,?_⟩
   ·have:=(i.Fe (d[b+c]+f %4294967296) (j:=b+c) U).set (f/4294967296);exact this
   ·intro h;show((d.set (b+c) (d[b+c]+f %4294967296)).set (b+c+1) (f/4294967296))[b+c+1]'h<2^e
    rw[List.getElem_set_self];exact B
   have Q:(d.set (b+c) (d[b+c]+f %4294967296))[b+c+1]'(by simp;omega)=0:=by rw[ru U];exact i _ U U
   rw[kW (by simp;omega),Q,kW U,o,fX m,ga,rm];have S:=g8 f 4294967296;generalize f/4294967296=L at*;generalize f %4294967296=q at*;generalize(2:Int)^e=u at*;generalize a[c]=v at*;generalize d[b+c]=Z at*;have D:q=v*u-4294967296*L:=U;subst D;grind
  rintro _ ⟨d,rfl,ar,g,i,t,o⟩;dsimp only;rw[if_neg (show¬((a.length:Int)<aq a) by simp only[aW];omega)];refine ac.af.2 ⟨d,rfl,ar,g,?_⟩;rw[o,List.take_of_length_le (Nat.le_refl _)]
 rintro _ ⟨d,rfl,ar,g,i⟩;refine ac.of_eq (ai (mJ g (by show d.length<=_;omega)) rfl) ?_;show(fy d,())=_;rw[fy,i,oA,K,jb];congr 3;grind
theorem SD (k:aI d) (o:d.length<=10000000):wb (d,(),())=some (decide (ae d≠0),()):=by
 unfold wb;refine ac.eq_iff.1 ?_;refine ac.aU (P:=λi=>∃g,i=(g,())/\(0<=g↔ae d≠0)) ?_ ?_
 ·unfold CW;dsimp only;refine ac.aU (P:=λc=>match c with|.inl _=>ae d=0|.inr i=>0<=i.1/\ae d≠0) ?_ ?_
  ·refine ac.steps d.length (λa m=>m=((a:Int),())/\ae (d.take a)=0) ⟨rfl,rfl⟩ ?_ ?_
   ·rintro a _ e ⟨rfl,b⟩;have l:=k.get e;simp only[az (show(a:Int)<aq d by simp only[aW];omega),cond_true,bM e,aM,CQ,bY];by_cases h:d[a]=0
    ·simp only[az h,i6,cond_false];refine ac.af.2 ⟨by rw[bg U],?_⟩;rw[fX e,h,b];simp
    simp only[aw h,kx,cond_true];refine ac.af.2 ⟨by show(0:Int)<=(a:Int);omega,?_⟩;rw[mL d a U,b,j9 e];have j:=dx (k.drop (a+1));have n:0<aD a*(d[a]+4294967296*ae (d.drop (a+1))):=nA (dV a) U;omega
   rintro _ ⟨rfl,b⟩;simp only[aw (show¬((d.length:Int)<aq d) by simp only[aW];omega),cond_false];refine ac.af.2 ?_;rw[c9 (a8 _)] at b;exact b
  rintro(c|c) f
  ·have f:ae d=0:=f;exact ac.af.2 ⟨_,rfl,by rw[f];simp⟩
  obtain⟨b,j⟩:0<=c.1/\ae d≠0:=f;exact ac.af.2 ⟨c.1,rfl,λ_=>j,λ_=>b⟩
 rintro _ ⟨g,rfl,l⟩;refine ac.af.2 ?_;show(decide (g>=0),())=_;congr 1;rw[decide_eq_decide];exact l
theorem Gu (a:Nat) (c:0<=b) (g:b<4294967296) (e:a<=32):dr .u32 b (2^a-1)=b %2^a:=by obtain⟨i,rfl⟩:=ew c;have f:0<2^a:=ht a;have d:(2:Int)^a-1=((2^a-1:Nat):Int):=(by rw[Int.natCast_sub f];simp);have h:2^a<=2^32:=nL aa e;rw[d,Gs U U,Nat.and_two_pow_sub_one_eq_mod];simp
theorem IT {x b y:Int} {P P':Int} (e:0<b) (f:0<=x/\x<b) (h:0<P):(x+b*y) %(b*P)=0↔x=0/\y %P=0:=by
 constructor
 ·intro a;have g:x=0:=by
   have c:(x+b*y) %b=0:=(by have:=Int.emod_emod_of_dvd (x+b*y) (show b∣b*P from⟨P,rfl⟩);rw[a] at this;simpa using this.symm);rw[vp,pK f.1 f.2] at c;exact c
  subst g;rw[Int.zero_add,Int.mul_emod_mul_of_pos _ _ e] at a;exact⟨rfl,by rcases Int.mul_eq_zero.1 a with d|d;omega;exact d⟩
 rintro⟨rfl,a⟩;rw[Int.zero_add,Int.mul_emod_mul_of_pos _ _ e,a,Int.mul_zero]
theorem C8 {n:Nat} (i:aI d) (a4:dp d) (dl:d.length<=10000000) (co:n<=1000000000):tS (d,(n:Int),())=some (bL (ae d/2^n).toNat,decide (ae d %2^n≠0),()):=by
 unfold tS;dsimp only;refine ac.eq_iff.1 ?_;obtain⟨a,e,av,cs,am,ap⟩:∃a e:Nat,n=32*a+e/\e<32/\gm IntKind.i64 (n:Int) 32=some (a:Int)/\gU (n:Int) 32=some (e:Int):=by
  refine⟨n/32,n %32,U,U,?_,?_⟩
  ·unfold gm;rw[if_pos aa,vq U,wrap64 U U];simp
  unfold gU;rw[if_pos aa,yg U];simp
 have B:=h6 e;have G:=sP (p:=e) U;have X:(2:Int)^n=aD a*2^e:=(by rw[oA,av,jb]);have K:=dx i;rw[am,ap,aM,aM,bu,X];refine ac.ite (λk=>?_) λk=>?_
 ·have k:d.length<=a:=(by simp only[aW] at k;omega);have m:=fb i;have r:=nl k;have F:aD a*1<=aD a*2^e:=hT U (dL (dV a));rw[ny K U,pK K U];refine ac.af.2 ?_;show(([]:cZ),decide (aq d>0),())=(bL 0,_,());rw[De];congr 2;rw[decide_eq_decide];simp only[aW];constructor
  ·intro o C;have:=dp.zero i a4 C;rw[this] at o;simp at o
  intro o;have:d≠[]:=λO=>(by rw[O] at o;exact o rfl);have:=yi.2 this;omega
 have k:a<d.length:=(by simp only[aW] at k;omega);have w:=i.get k;obtain⟨f,u⟩:∃f,f=ae (d.drop a):=⟨_,rfl⟩;have H:0<=f:=(by rw[u];exact dx (i.drop a));have J:ae d=ae (d.take a)+aD a*f:=(by rw[u];exact mL d a U);have I:=dx (i.take a);have E:=fb (i.take a);rw[dX,fR U] at E;have Z:ae d/(aD a*2^e)=f/2^e:=(by rw[<-rn (dL (dV a)),J,tg _ _ (by have:=dV a;omega),ny I E,Int.zero_add]);refine ac.aU (P:=λq=>q=(decide (ae d %(aD a*2^e)≠0),())) ?_ ?_
 ·rw[BM U,aM];have aj:List.drop 0 (List.take a d)=d.take a:=lu;show ac ((wb (List.drop 0 (List.take a d),(),())).bind _) _;rw[aj,SD (i.take a) (by simp;omega),aM];have D:(decide (ae d %(aD a*2^e)≠0))=(decide (ae (d.take a)≠0)||decide (d[a] %2^e≠0)):=by
   have m:=IT (x:=ae (d.take a)) (b:=aD a) (y:=f) (P:=2^e) (P':=0) (dV a) ⟨I,E⟩ B;rw[<-J] at m;have r:f %2^e=d[a] %2^e:=(by rw[u,j9 k,G,ja,vp]);rw[r] at m;by_cases A:ae (d.take a)=0<;>by_cases T:d[a] %2^e=0<;>simp[A,T,m]
  rw[D];dsimp only;by_cases A:ae (d.take a)=0
  ·simp only[aw (show¬(ae (d.take a)≠0) fromλk=>k A),beq_self_eq_true,cond_true,bM k,aM];rw[bV (x:=(e:Int)) U U,LU U U,aM,de,Int.one_mul];have bl:(2:Int)^e<=2147483648:=sQ U;rw[pK U U,jz U U,Gu e w.1 w.2 U,bY];refine ac.af.2 ?_;simp
  simp only[az (show ae (d.take a)≠0 from A)];exact ac.af.2 rfl
 rintro _ rfl;dsimp only;obtain⟨l,ci⟩:∃l,d.length=a+l:=⟨d.length-a,U⟩;have Q:au (aq d-(a:Int))=((l:Nat):Int):=(by simp only[aW];rw[bf U U];omega);rw[Q,gE U,Option.bind_some];have bs:f<aD l:=(by have:=fb (i.drop a);rw[List.length_drop,(U:d.length-a=l),<-u] at this;exact this);refine ac.aU (P:=λq=>∃g,q=(g,())/\g.length=l/\aI g/\ae g=f/2^e) ?_ ?_
 ·refine ac.steps l (λc a3=>∃g,a3=((c:Int),g,())/\g.length=l/\aI g/\ae (g.take c)+aD c*(f/2^e/aD c)=f/2^e) ⟨_,rfl,ab,aI.kb _,by simp[ae,vj]⟩ ?_ ?_
  ·rintro c _ ce ⟨g,rfl,ar,z,s⟩;have w:=i.get (n:=a+c) U;have a0:=i.getD (a+c+1);have D:decide ((c:Int)<aq (List.replicate l (0:Int)))=true:=az (by simp only[aW,oJ];omega);have aj:au ((a:Int)+(c:Int))=((a+c:Nat):Int):=(by rw[bf U U];simp);have R:aS ((a+c:Nat):Int)=((a+c+1:Nat):Int):=bg U;simp only[D,cond_true,aj,R,bM (U:a+c<d.length),aM];obtain⟨j,v,L,d0⟩:∃j,j=d[a+c]+4294967296*d.getD (a+c+1) 0/\0<=j/\j<18446744073709551616:=⟨_,rfl,U,U⟩;have Y:f/aD c=j+4294967296*(4294967296*ae (d.drop (a+c+2))):=by
    have m:d.drop a=(d.drop a).take c++d.drop (a+c):=by
     conv=>lhs;rw[<-kE c (d.drop a)]
     rw[nE]
    have r:f=ae ((d.drop a).take c)+aD c*ae (d.drop (a+c)):=by
     rw[u]
     conv=>lhs;rw[m]
     rw[j8,dX,kC,fR U]
    have F:=dx ((i.drop a).take c);have o:=fb ((i.drop a).take c);rw[dX,kC,fR U] at o;have C:ae (d.drop (a+c))=d[a+c]+4294967296*ae (d.drop (a+c+1)):=j9 U;have V:ae (d.drop (a+c+1))=d.getD (a+c+1) 0+4294967296*ae (d.drop (a+c+2)):=by
     rcases bp (a+c+1) d.length with h|h
     ·rw[jo h];exact j9 h
     rw[mn h,nF h,nF U];rfl
    rw[r,tg _ _ (by have:=dV c;omega),ny F o,C,V,v];grind
   have ad:f/2^e/aD c %4294967296=j/2^e %4294967296:=(by have m:f/2^e/aD c=f/aD c/2^e:=(by rw[rn (dL B),rn (dL (dV c)),gW]);rw[m,Y];have r:∀t:Int,j+4294967296*(4294967296*t)=j+2^e*(4294967296*(2^(32-e)*t)):=λt=>(by generalize(2:Int)^e=M at*;generalize(2:Int)^(32-e)=N at*;rw[show(4294967296:Int)*(4294967296*t)=(M*N)*(4294967296*t) by rw[<-G]];grind);rw[r,tg _ _ U,vp]);have an:0<=j/2^e:=ky L (dL B);have cv:j/2^e<=j:=ro _ L;refine ac.aU (P:=λq=>q=(g.set c (j/2^e %4294967296),())) ?_ ?_
   ·refine ac.aU (P:=λq=>q=(j,g,())) ?_ ?_
    ·simp only[bu];refine ac.ite (λh=>?_) λh=>?_
     ·have h:a+c+1<d.length:=(by simp only[aW] at h;omega);rw[bM h,aM,bV (x:=d[a+c+1]) (by have:=i.get h;omega) (by have:=i.get h;omega),lU aa aa];rw[jo h] at v a0;have S:d[a+c+1]*2^(32:Int).toNat %18446744073709551616=4294967296*d[a+c+1]:=by
       rw[show(2:Int)^(32:Int).toNat=4294967296 from rfl];omega
      rw[aM,S,bV U U,lh 32 w.1 w.2 U U U U];refine ac.af.2 ?_;rw[<-v]
     have h:d.length<=a+c+1:=(by simp only[aW] at h;omega);rw[mn h] at v;rw[bV U U];refine ac.af.2 ?_;rw[v];simp
    rintro _ rfl;dsimp only;rw[bV (x:=(e:Int)) U U,q8 U U,Option.bind_some,Int.toNat_natCast,pf an U,i5 U];exact ac.af.2 rfl
   rintro _ rfl;dsimp only;refine ac.af.2 ⟨g.set c (j/2^e %4294967296),by rw[bg U],by simp[ar],z.set U U,?_⟩;rw[fX (by simp;omega)];simp only[List.getElem_set_self];rw[List.take_set_of_le U,<-ad,ga,Int.mul_comm 4294967296 (aD c),<-Int.ediv_ediv_of_nonneg (Int.le_of_lt (dV c))];have W:=Int.emod_add_mul_ediv (f/2^e/aD c) 4294967296;generalize f/2^e/aD c %4294967296=q at*;generalize f/2^e/aD c/4294967296=ds at*;rw[<-W] at s;grind
  rintro _ ⟨g,rfl,ar,z,s⟩;simp only[aw (show¬((l:Int)<aq (List.replicate l (0:Int))) by simp only[aW,oJ];omega),cond_false];refine ac.af.2 ⟨g,rfl,ar,z,?_⟩;have m:0<=f/2^e:=ky H (dL B);have r:f/2^e<=f:=ro _ H;rw[ny m U,c9 U] at s;simpa using s
 rintro _ ⟨g,rfl,ar,z,s⟩;refine ac.of_eq (ai (mJ z (by show g.length<=_;omega)) rfl) ?_;show(fy g,_,())=_;rw[fy,s,Z]
section
theorem xE (a:IntKind) (b c:Int):eA a b c=eA a c b:=by unfold eA;rw[BitVec.or_comm]
theorem BW {x y:Int} (b:0<=x/\x<4294967296) (a:0<=y/\y<4294967296):gn .u64 x 32=some (4294967296*x)/\eA .u64 (4294967296*x) (aF y)=4294967296*x+y:=by
 constructor
 ·rw[lU aa aa,show(2:Int)^(32:Int).toNat=4294967296 from rfl];congr 1;omega
 rw[bV a.1 U,xE,lh 32 a.1 a.2 U U U U,Int.add_comm]
theorem Bw {x y:Int} (a:0<=x/\x<18446744073709551616) (d:0<y):gm .u64 x y=some (x/y)/\gU x y=some (x %y):=by
 constructor
 ·unfold gm;rw[if_pos U,vq a.1];have c:x/y<=x:=ro _ a.1;have b:0<=x/y:=ky a.1 U;rw[B7 b U]
 unfold gU;rw[if_pos U,yg a.1]
theorem ZT (n:aI d) (L:d.length<=10000000) (j:0<b) (I:b<4294967296):zo (d,b,())=some (bL (ae d/b).toNat,ae d %b,()):=by
 unfold zo;refine ac.eq_iff.1 ?_;simp only[aW,gE (U:d.length<=4294967296),aM];refine ac.aU (P:=λr=>∃e,r=(ae d %b,e,())/\e.length=d.length/\aI e/\ae e=ae d/b) ?_ ?_
 ·refine ac.steps d.length (λf C=>∃e,C=(ae (d.drop (d.length-f)) %b,((d.length:Nat):Int)-1-f,e,())/\e.length=d.length/\aI e/\(∀a,a<d.length-f->(v:a<e.length)->e[a]=0)/\ae e=aD (d.length-f)*(ae (d.drop (d.length-f))/b)) ⟨List.replicate d.length 0,?_,ab,aI.kb _,ab,?_⟩ ?_ ?_
  ·rw[bf U U,nF U];simp[ae]
  ·rw[nF U];simp[ae,nu]
  ·rintro f _ J ⟨e,rfl,ar,g,h,i⟩;obtain⟨a,v⟩:∃a,d.length=a+1+f:=⟨d.length-1-f,U⟩;have aj:((d.length:Nat):Int)-1-(f:Int)=(a:Int):=U;have l:a<d.length:=U;rw[(U:d.length-f=a+1)] at*;have A:=n.get l;obtain⟨c,k⟩:∃c,c=ae (d.drop (a+1)):=⟨_,rfl⟩;have H:0<=c:=(by rw[k];exact dx (n.drop _));rw[<-k] at i|-;have w:0<=c %b:=lY _ U;have K:c %b<b:=nz _ j;obtain⟨D,E⟩:=BW (x:=c %b) (y:=d[a]) ⟨w,U⟩ A;obtain⟨F,G⟩:=Bw (x:=4294967296*(c %b)+d[a]) (y:=b) ⟨U,U⟩ j;have p:(4294967296*(c %b)+d[a])/b<4294967296:=by
    refine oC j ?_;have:4294967296*(c %b)+d[a]<4294967296*(c %b+1):=U;have m:4294967296*(c %b+1)<=4294967296*b:=U;omega
   have q:0<=(4294967296*(c %b)+d[a])/b:=ky U U;simp only[aj,az (U:(a:Int)>=0),cond_true,bM l,D,aM];rw[E,bV (x:=b) U U,F,aM,jz q p,i5 U,G,aM];have u:=g8 c b;have z:ae (d.drop a)=d[a]+4294967296*c:=(by rw[k];exact j9 l);have o:ae (d.drop a)=(4294967296*(c %b)+d[a])+b*(4294967296*(c/b)):=(by rw[z];generalize c/b=M at*;generalize c %b=r at*;rw[<-u];grind);refine ac.af.2 ⟨e.set a ((4294967296*(c %b)+d[a])/b),?_,by simp[ar],g.set q p,?_,?_⟩
   ·rw[(U:d.length-(f+1)=a),bf U U,o,vp];congr 2;omega
   ·intro B t m;rw[ru U];exact h B U (by simpa using m)
   rw[(U:d.length-(f+1)=a),o,tg _ _ U,kW U,h a U U,i,ga];grind
  rintro _ ⟨e,rfl,ar,g,h,i⟩;have aj:¬(((d.length:Nat):Int)-1-(d.length:Int)>=0):=U;simp only[aw aj,cond_false];rw[Nat.sub_self] at i;refine ac.af.2 ⟨e,ab,ar,g,?_⟩;rw[i,vj];simp
 rintro _ ⟨e,rfl,ar,g,h⟩;have t:ae d %b<b:=nz _ j;have s:0<=ae d %b:=lY _ U;refine ac.of_eq (ai (mJ g (by show e.length<=_;omega)) rfl) ?_;show(fy e,bX (ae d %b),())=_;rw[fy,h,jz s U]
section
variable {α B:Type}
theorem oO {c b f:List α} (e:a<b.length) (d:α->Option B):bi (c++(b++f)) (c.length+a) d=d b[a]:=by refine oP ?_;rw[l1 U,lB,lx e,bo e]
theorem xX {b c d:List α} (f:a<c.length) (e:α):(b++(c++d)).set (b.length+a) e=b++(c.set a e++d):=by rw[List.set_append_right _ _ U,lB,List.set_append_left _ _ f]
end
theorem Tg {v1 e1 d f a c g:Int} (t:0<b) (j:d=(v1*4294967296+e1)*b+c) (q:f=(r*4294967296+a)*b+g) (k:0<=c) (s:g<b) (h:0<=e) (l:(r-e*v1)*4294967296+a<e*e1):f<e*d:=by have i:r*4294967296+a+1<=e*(v1*4294967296+e1):=(by grind);have m:(r*4294967296+a+1)*b<=e*(v1*4294967296+e1)*b:=kz i U;have n:0<=e*c:=ls h k;have o:e*d=e*(v1*4294967296+e1)*b+e*c:=(by rw[j];grind);have p:(r*4294967296+a+1)*b=(r*4294967296+a)*b+b:=(by grind);omega
theorem Th {v1 e1 a f c d g:Int} (u:0<e) (j:a=(v1*4294967296+e1)*e+r) (q:f=(c*4294967296+d)*e+g) (t:0<=r/\r<e) (s:0<=g) (h:0<=b/\b<4294967296) (v:1<=v1) (w:0<=e1) (k:b*e1<=(c-b*v1)*4294967296+d):b*a<f+a:=by have i:b*(v1*4294967296+e1)<=c*4294967296+d:=(by grind);have l:b*(v1*4294967296+e1)*e<=(c*4294967296+d)*e:=kz i U;have m:b*r<=b*e:=hT U h.1;have n:b*a=b*(v1*4294967296+e1)*e+b*r:=(by rw[j];grind);have o:b*e<=4294967295*e:=kz U U;have p:4294967296*e<=(v1*4294967296+e1)*e:=kz U U;omega
end
theorem B6 {l:cZ} {m:Nat} (b:l.length=m+2):ae l=(l[m+1]*4294967296+l[m])*aD m+ae (l.take m):=by have a:ae l=ae (l.take (m+1))+aD (m+1)*l[m+1]:=(by rw[<-fX U,c9 U]);rw[a,fX U,ga];grind
theorem aaV (c:d.length=a+3):ae d=((d[a+2]*4294967296+d[a+1])*4294967296+d[a])*aD a+ae (d.take a):=by have b:ae d=ae (d.take (a+2))+aD (a+2)*d[a+2]:=(by rw[<-fX U,c9 U]);rw[b,fX U,fX U];simp only[ga];grind
structure vl (v w:cZ) (n:Nat):Prop where
 hv:aI v
 hw:aI w
 rf:v.length=n+2
 wn:w.length=n+3
 Ju:n<=10000000
 top:2147483648<=v[n+1]
 lt:ae w<4294967296*ae v
theorem vl.MC {n:Nat} (a:vl d f n):0<ae d:=by
 have b:=B6 a.rf;have c:=dx (a.hv.take n);have e:=a.hv.get (n:=n) (by have:=a.rf;omega);have g:=a.top;have h:0<(d[n+1]'(by have:=a.rf;omega)*4294967296+d[n]'(by have:=a.rf;omega))*aD n:=nA U (dV n)
 omega
theorem Ti {h k:cZ} {n:Nat} (g:vl f d n) (p:b=(4294967296*d[n+2]'(by have:=g.wn;omega)+d[n+1]'(by have:=g.wn;omega))/f[n+1]'(by have:=g.rf;omega)) (S:e=(4294967296*d[n+2]'(by have:=g.wn;omega)+d[n+1]'(by have:=g.wn;omega)) %f[n+1]'(by have:=g.rf;omega)):ac (loop (σ:=(cI×Int×Int×aQ×Unit)) (ρ:=(cI×Int×aQ×Unit)) (λ(q,s,E,A,_)=>
 Option.bind (α:=(cI×aQ×Unit)⊕((cI×Int×Int×aQ×Unit)⊕(cI×Int×aQ×Unit))) (bif decide (s>4294967295)==false then(ay f (au (aq f-2))).bind λd7=>
 (gn IntKind.u64 E 32).bind λd8=>
 (bx (q.2-q.1) (au (aq f-2))).bind λd3=>
 (bi A (q.1+d3) λbl=>some bl).bind λd9=>
  bif decide (aF (s*aF d7)>eA IntKind.u64 d8 (aF d9)) then
 some (.inl (q,A,())) else
 some (.inr (.inr (q,s,A,()))) else some (.inl (q,A,()))) λa=>match a with
 |.inl (W,X,_)=>(
 (ay f (au (aq f-1))).bind λt=>
  bif decide (aF (E+aF t)>4294967295) then
 some (.inr (W,aF (s-1),X,())) else
 some (.inl (W,aF (s-1),aF (E+aF t),X,())))
 |.inr i=>some i) ((h.length,h.length+d.length),b,e,h++(d++k),())) (λi=>∃a,i=((h.length,h.length+d.length),a,h++(d++k),())/\0<=a/\a<4294967296/\ae d/ae f<=a/\a*ae f<ae d+ae f):=by
 have d1:=g.rf;have d2:=g.wn;have f0:=g.Ju;have P:=g.MC;have gf:=g.hv.get (n:=n+1) U;have z:=g.hv.get (n:=n) U;have f5:=g.hw.get (n:=n+2) U;have f6:=g.hw.get (n:=n+1) U;have d0:=g.hw.get (n:=n) U;have f4:=g.top;have C:=B6 d1;have u:=aaV d2;have H:=dx (g.hv.take n);have I:=fb (g.hv.take n);have Z:=dx (g.hw.take n);have J:=fb (g.hw.take n);rw[dX,fR U] at I J;have dl:=g.lt;have D:=dV n;have aj:au (aq f-1)=((n+1:Nat):Int):=(by simp only[aW];rw[bf U U];omega);have a4:au (aq f-2)=((n:Nat):Int):=(by simp only[aW];rw[bf U U];omega);have bs:ay f ((n+1:Nat):Int)=some f[n+1]:=bM U;have ce:ay f ((n:Nat):Int)=some f[n]:=bM U;have ci:∀v:Int->cT,bi (h++(d++k)) (h.length+n) v=v d[n]:=λv=>oO U v;generalize f7:f[n+1]=v1 at*;generalize f8:f[n]=e1 at*;generalize f9:d[n+2]=G at*;generalize gc:d[n+1]=d6 at*;generalize ge:d[n]=j at*;obtain⟨c,T⟩:∃c,c=4294967296*G+d6:=⟨_,rfl⟩;rw[<-T] at p S;have u:ae d=(c*4294967296+j)*aD n+ae (d.take n):=(by rw[u,T];grind);have ft:G<=v1:=by
  rcases gH v1 G with l|l
  ·exfalso;have ad:(v1*4294967296+e1+1)*aD n<=(v1*4294967296+4294967296)*aD n:=kz U U;have K:((v1+1)*4294967296*4294967296)*aD n<=(c*4294967296+j)*aD n:=kz U U;have am:(v1*4294967296+e1+1)*aD n=(v1*4294967296+e1)*aD n+aD n:=(by grind);have an:((v1+1)*4294967296*4294967296)*aD n=4294967296*((v1*4294967296+4294967296)*aD n):=(by grind);omega
  exact l
 have fn:0<=ae d/ae f:=ky (dx g.hw) U;have fp:ae d/ae f<4294967296:=oC P dl;have ds:0<=c:=U;have fs:=g8 c v1;have f2:0<=c %v1:=lY _ U;have f3:c %v1<v1:=nz _ U;have f1:0<=c/v1:=ky ds U;have ap:∀a,0<=a->(c-a*v1)*4294967296+j<a*e1->ae d/ae f<a:=λa p g=>(by have:=Tg D C u H J p g;exact oC P this);have O:∀a,0<=a->a<4294967296->a*e1<=(c-a*v1)*4294967296+j->a*ae f<ae d+ae f:=λa co cs g=>Th D C u ⟨H,I⟩ Z ⟨co,cs⟩ U z.1 g;refine ac.loop (λF=>∃a i,F=((h.length,h.length+d.length),a,i,h++(d++k),())/\0<=a/\a<=4294967297/\0<=i/\i<4294967296/\i=c-a*v1/\ae d/ae f<=a) (λF=>F.2.1.toNat) ⟨b,e,rfl,U,?_,U,U,?_,?_⟩ ?_
 ·rw[p];have:c<4294967298*v1:=U;have:=oC U this;omega
 ·rw[p,S,gW];omega
 ·rcases gH (c/v1) (ae d/ae f) with l|l
  ·exfalso;have ad:(c/v1+1)*ae f<=ae d:=by
    have o:(c/v1+1)*ae f<=ae d/ae f*ae f:=kz U U;have av:=g8 (ae d) (ae f);have L:=lY (ae d) (U:ae f≠0);rw[gW (ae d/ae f)] at o;omega
   have K:(c+1)*4294967296<=(c/v1+1)*(v1*4294967296):=(by have:(c/v1+1)*(v1*4294967296)=(v1*(c/v1)+v1)*4294967296:=(by grind);omega);have am:(c+1)*4294967296*aD n<=(c/v1+1)*(v1*4294967296)*aD n:=kz K U;have an:0<=(c/v1+1)*(e1*aD n+ae (f.take n)):=ls U (by have:=ls z.1 (dL D);omega);have el:(c/v1+1)*ae f=(c/v1+1)*(v1*4294967296)*aD n+(c/v1+1)*(e1*aD n+ae (f.take n)):=(by rw[C];grind);have em:(j+1)*aD n<=4294967296*aD n:=kz U U;have eq:(c*4294967296+j)*aD n+aD n=c*4294967296*aD n+(j+1)*aD n:=(by grind);have ex:(c+1)*4294967296*aD n=c*4294967296*aD n+4294967296*aD n:=(by grind);omega
  rw[p];exact l
 rintro _ ⟨a,i,rfl,o,av,L,a0,M,a3⟩;have w:∀a,(a-1)*v1=a*v1-v1:=λa=>(by grind);have N:ae d/ae f<a->ac ((ay f (au (aq f-1))).bind λt=>
  bif decide (aF (i+aF t)>4294967295) then
 some (.inr ((h.length,h.length+d.length),aF (a-1),h++(d++k),())) else
 some (
  .inl ((h.length,h.length+d.length),aF (a-1),aF (i+aF t),h++(d++k),()))) (λ(Y:(cI×Int×Int×aQ×Unit)⊕(cI×Int×aQ×Unit))=>match Y with
  |.inl V=>(∃a i,V=((h.length,h.length+d.length),a,i,h++(d++k),())/\0<=a/\a<=4294967297/\0<=i/\i<4294967296/\i=c-a*v1/\ae d/ae f<=a)/\V.2.1.toNat<a.toNat
  |.inr i=>∃a,i=((h.length,h.length+d.length),a,h++(d++k),())/\0<=a/\a<4294967296/\ae d/ae f<=a/\a*ae f<ae d+ae f):=by
  intro fz;rw[aj,bs,aM,bV (x:=v1) U U,bV (x:=i+v1) U U,bV (x:=a-1) U U,bu];refine ac.ite (λl=>?_) λl=>?_
  ·refine ac.af.2 ⟨a-1,rfl,U,?_,U,?_⟩
   ·rcases gH (a-1) 4294967296 with m|m
    ·exact m
    exfalso;have:=kz m (U:0<=v1);rw[w] at this;omega
   have cv:a-1<4294967296:=by
    rcases gH (a-1) 4294967296 with m|m
    ·exact m
    exfalso;have:=kz m (U:0<=v1);rw[w] at this;omega
   refine O (a-1) U cv ?_;rw[w];have gi:(a-1)*e1<=4294967295*e1:=kz U z.1;omega
  refine ac.af.2 ⟨⟨a-1,i+v1,rfl,U,U,U,U,?_,U⟩,?_⟩
  ·rw[w];omega
  show(a-1).toNat<a.toNat;omega
 by_cases Q:a>4294967295
 ·simp only[az Q,show(true==false)=false from rfl,cond_false,aM];refine(N U).mono ?_;rintro(B|B) r
  ·exact r
  exact r
 simp only[aw Q,beq_self_eq_true,cond_true,a4,ce,aM];obtain⟨d4,d5⟩:=BW (x:=i) (y:=j) ⟨L,a0⟩ d0;have fT:=xl (x:=a) (y:=e1) ⟨o,U⟩ z;rw[d4,aM];simp only[lB,eO (U:n<d.length),aM,ci,d5];rw[bV (x:=e1) U U,bV (x:=a*e1) U U];by_cases R:a*e1>4294967296*i+j
 ·simp only[az R,cond_true,aM];refine(N (ap a o (by rw[<-M];omega))).mono ?_;rintro(B|B) r
  ·exact r
  exact r
 simp only[aw R,cond_false,aM];exact ac.af.2 ⟨a,rfl,o,U,a3,O a o U (by rw[<-M];omega)⟩
theorem aai {j r:cZ} (W:aI d) (X:aI f) (cv:d.length<f.length) (co:f.length<=100000000) (V:0<=b/\b<4294967296) (R:∀g e a,a.length=f.length->aI a->(∀(Q:d.length<a.length) (m:d.length<f.length),a[d.length]=f[d.length])->0<=g->g<4294967296->0<=e->e<=1->ae a-aD d.length*(g+e)=ae f-b*ae d->s ((j.length,j.length+f.length),g,e,j++(a++r),())):ac (loop (σ:=(cI×Int×Int×Int×aQ×Unit)) (ρ:=(cI×Int×Int×aQ×Unit)) (λ(k,p,t,o,q,_)=>
 bif decide (o<aq d) then
 (ay d o).bind λz=>
 (dk IntKind.u64 (aF (aF (b*aF z)+p)) 32).bind λa0=>
 (bx (k.2-k.1) o).bind λad=>
 (bi q (k.1+ad) λO=>some O).bind λK=>
 (bx (k.2-k.1) o).bind λG=>
 (bi q (k.1+G) λ_=>some (q.set (k.1+G) (bX (dr IntKind.u64 (aF (aF (aF K-dr IntKind.u64 (aF (aF (b*aF z)+p)) 4294967295)-t)) 4294967295)))).bind λa4=>
 (dk IntKind.u64 (aF (aF (aF K-dr IntKind.u64 (aF (aF (b*aF z)+p)) 4294967295)-t)) 32).bind λa3=>
 some (.inl (k,a0,dr IntKind.u64 a3 1,aS o,a4,())) else
 some (.inr (k,p,t,q,()))) ((j.length,j.length+f.length),0,0,0,j++(f++r),())) s:=by
 refine ac.steps d.length (λc ap=>∃g e a,ap=((j.length,j.length+f.length),g,e,(c:Int),j++(a++r),())/\a.length=f.length/\aI a/\(∀l,c<=l->(Q:l<a.length)->(m:l<f.length)->a[l]=f[l])/\0<=g/\g<4294967296/\0<=e/\e<=1/\ae a-aD c*(g+e)=ae f-b*ae (d.take c)) ⟨0,0,f,rfl,rfl,X,λ_ _ _ _=>rfl,U,U,U,U,by simp[ae]⟩ ?_ ?_
 ·rintro c _ y ⟨g,e,a,rfl,u,m,v,A,B,C,D,w⟩;have Y:=W.get y;have dl:=m.get (n:=c) U;have cs:=xl V Y;obtain⟨i,T,H,I⟩:∃i,i=b*d[c]+g/\0<=i/\i<18446744073709551616:=⟨_,rfl,U,U⟩;simp only[az (show(c:Int)<aq d by simp only[aW];omega),cond_true,bM y,aM];have aj:aF (aF (b*aF d[c])+g)=i:=by
   rw[bV (x:=d[c]) U U,bV (x:=b*d[c]) U U,<-T,bV H I]
  rw[aj];obtain⟨h,S,bs,ce⟩:∃h,h=a[c]-i %4294967296-e/\-4294967296<=h/\h<4294967296:=⟨_,rfl,U,U⟩;have N:aF (aF (aF a[c]-dr IntKind.u64 i 4294967295)-e)=h %18446744073709551616:=(by rw[and_low32 H I,ka,ka,ka,S];omega);have ar:h %18446744073709551616/4294967296 %2^1=-(h/4294967296):=(by rw[show(2:Int)^1=2 from rfl];omega);have an:h %18446744073709551616 %4294967296=h %4294967296:=U;simp only[ln,lB,eO (U:c<f.length),aM,oO (U:c<a.length),N,pf (U:0<=h %18446744073709551616) U,xX (U:c<a.length)];rw[p2 1 U U 1 aa aa,ar,an];refine ac.af.2 ⟨i/4294967296,-(h/4294967296),a.set c (h %4294967296),by rw[bg U],by simp[u],m.set U U,?_,U,U,U,U,?_⟩
  ·intro l E F Z;rw[ru U];exact v l U U Z
  rw[kW U,ga,fX y];have ci:=g8 h 4294967296;have f2:=g8 i 4294967296;generalize h/4294967296=L at*;generalize h %4294967296=M at*;generalize i/4294967296=am at*;generalize i %4294967296=J at*;generalize a[c]=av at*;have P:J=b*d[c]+g-4294967296*am:=U;generalize d[c]=bl at*;have f4:M=av-J-e-4294967296*L:=U;rw[f4,P];grind
 rintro _ ⟨g,e,a,rfl,u,m,v,A,B,C,D,w⟩;simp only[aw (show¬((d.length:Int)<aq d) by simp only[aW];omega),cond_false];rw[c9 (a8 _)] at w;exact ac.af.2 (R g e a u m (λE F=>v _ (a8 _) E F) A B C D w)
theorem Rw {g m:cZ} (L:aI d) (M:aI f) (W:d.length<f.length) (V:f.length<=100000000) (J:∀c a,a.length=f.length->aI a->(∀(I:d.length<a.length) (j:d.length<f.length),a[d.length]=f[d.length])->0<=c->c<=1->ae a+aD d.length*c=ae f+ae d->u ((g.length,g.length+f.length),c,g++(a++m),())):ac (loop (σ:=(cI×Int×Int×aQ×Unit)) (ρ:=(cI×Int×aQ×Unit)) (λ(h,o,k,l,_)=>
 bif decide (k<aq d) then
 (ay d k).bind λB=>
 (bx (h.2-h.1) k).bind λO=>
 (bi l (h.1+O) λH=>some H).bind λC=>
 (bx (h.2-h.1) k).bind λz=>
 (bi l (h.1+z) λ_=>some (l.set (h.1+z) (bX (dr IntKind.u64 (aF (aF (aF C+aF B)+o)) 4294967295)))).bind λS=>
 (dk IntKind.u64 (aF (aF (aF C+aF B)+o)) 32).bind λR=>
 some (.inl (h,R,aS k,S,())) else
 some (.inr (h,o,l,()))) ((g.length,g.length+f.length),0,0,g++(f++m),())) u:=by
 refine ac.steps d.length (λb P=>∃c a,P=((g.length,g.length+f.length),c,(b:Int),g++(a++m),())/\a.length=f.length/\aI a/\(∀i,b<=i->(I:i<a.length)->(j:i<f.length)->a[i]=f[i])/\0<=c/\c<=1/\ae a+aD b*c=ae f+ae (d.take b)) ⟨0,f,rfl,rfl,M,λ_ _ _ _=>rfl,U,U,by simp[ae]⟩ ?_ ?_
 ·rintro b _ s ⟨c,a,rfl,p,j,q,t,v,r⟩;have X:=L.get s;have Y:=j.get (n:=b) U;obtain⟨e,K,A,Z⟩:∃e,e=a[b]+d[b]+c/\0<=e/\e<8589934592:=⟨_,rfl,U,U⟩;simp only[az (show(b:Int)<aq d by simp only[aW];omega),cond_true,bM s,aM];have G:aF (aF (aF a[b]+aF d[b])+c)=e:=by
   rw[bV (x:=d[b]) U U,bV (x:=a[b]) U U,bV (x:=a[b]+d[b]) U U,<-K,bV A U]
  simp only[ln,lB,eO (U:b<f.length),aM,oO (U:b<a.length),G,pf A (U:e<18446744073709551616),xX (U:b<a.length)];refine ac.af.2 ⟨e/4294967296,a.set b (e %4294967296),by rw[bg U],by simp[p],j.set U U,?_,U,U,?_⟩
  ·intro i w y N;rw[ru U];exact q i U U N
  rw[kW U,ga,fX s];have T:=g8 e 4294967296;generalize e/4294967296=E at*;generalize e %4294967296=F at*;generalize a[b]=Q at*;generalize d[b]=D at*;have f4:F=Q+D+c-4294967296*E:=U;rw[f4];grind
 rintro _ ⟨c,a,rfl,p,j,q,t,v,r⟩;simp only[aw (show¬((d.length:Int)<aq d) by simp only[aW];omega),cond_false];rw[c9 (a8 _)] at r;exact ac.af.2 (J c a p j (λw y=>q _ (a8 _) w y) t v r)
theorem SN {g f a c h d:Int} (m:g+b*a=f+e) (l:f=h-c*e-b*(4294967296*-1)):g+b*(d+a-4294967296*r-d)=h-(c-1)*e+b*(4294967296*(1-r)):=by have aj:b*(d+a-4294967296*r-d)=b*a-b*(4294967296*r):=(by grind);have i:(c-1)*e=c*e-e:=(by grind);have j:b*(4294967296*(1-r))=b*4294967296-b*(4294967296*r):=(by grind);have k:b*(4294967296*-1)=-(b*4294967296):=(by grind);omega
theorem SO {d h g f c a:Int} (i:d-b*(r+e)=f-h*g):d+b*(c-r-e-4294967296*a-c)=f-h*g-b*(4294967296*a):=by have aj:b*(c-r-e-4294967296*a-c)=-(b*(r+e))-b*(4294967296*a):=(by grind);omega
theorem ac.bs {c:Option k} {b:k->Option q} {a:q->Prop} {y:k} (d:c=some y) (e:ac (b y) a):ac (c.bind b) a:=by rw[d];exact e
theorem SP {A C:cZ} {n:Nat} (i:vl d f n):ac (v9 ((A++(f++C),A.length,A.length+f.length),d,())) (λq=>∃b,q=(A++(b++C),ae f/ae d,())/\b.length=f.length/\aI b/\ae b=ae f %ae d):=by
 have H:=i.rf;have ds:=i.wn;have fp:=i.Ju;have k:=i.MC;have av:=dx i.hw;have ft:=i.top;have Q:=i.hv.get (n:=n+1) U;have O:=i.hw.get (n:=n+2) U;have cv:=i.hw.get (n:=n+1) U;have D:aq d=((n+2:Nat):Int):=(by simp only[aW];omega);have aj:au (((n+2:Nat):Int)-1)=((n+1:Nat):Int):=(by rw[bf U U];omega);have an:ay d ((n+1:Nat):Int)=some d[n+1]:=bM U;obtain⟨d0,ad⟩:=BW (x:=f[n+2]) (y:=f[n+1]) O cv;obtain⟨d1,d2⟩:=Bw (x:=4294967296*f[n+2]+f[n+1]) (y:=d[n+1]) ⟨U,U⟩ U;unfold v9;have m:bx (A.length+f.length-A.length) (aq d)=some (n+2):=(by rw[lB,D];exact eO U);have i1:bx (A.length+f.length-A.length) (au (aq d-1))=some (n+1):=(by rw[lB,D,aj];exact eO U);have R:ay d (au (aq d-1))=some d[n+1]:=(by rw[D,aj];exact an);refine ac.bs m (ac.bs (oO U _) (ac.bs (by rw[bV O.1 U];exact d0) (ac.bs i1 (ac.bs (oO U _) (ac.bs R (ac.bs (by rw[ad,bV Q.1 U];exact d1) (ac.bs R (ac.bs (by rw[ad,bV Q.1 U];exact d2) ?_))))))));refine ac.aU (Ti i rfl rfl) ?_;rintro _ ⟨g,rfl,Z,ar,f1,f3⟩;refine ac.aU (P:=λq=>∃e j b,q=((A.length,A.length+f.length),e,j,A++(b++C),())/\b.length=f.length/\aI b/\0<=e/\e<4294967296/\0<=j/\j<=1/\(∀(i:d.length<b.length) (L:d.length<f.length),b[d.length]=f[d.length])/\ae b-aD d.length*(e+j)=ae f-g*ae d) (aai i.hv i.hw U U ⟨Z,ar⟩ λe j b p v T V W X Y w=>⟨e,j,b,rfl,p,v,V,W,X,Y,T,w⟩) ?_;rintro _ ⟨e,j,b,rfl,p,v,V,W,X,Y,T,w⟩;have fz:=v.get (n:=n+2) U;obtain⟨c,a0,d5,d6⟩:∃c,c=b[n+2]-e-j/\-4294967296<=c/\c<4294967296:=⟨_,rfl,U,U⟩;have K:aF (aF (aF b[n+2]-e)-j)=c %18446744073709551616:=(by rw[ka,ka,ka,a0];omega);have d3:c %18446744073709551616/4294967296 %2^1=-(c/4294967296):=(by rw[show(2:Int)^1=2 from rfl];omega);have d4:c %18446744073709551616 %4294967296=c %4294967296:=U;refine ac.bs m (ac.bs (oO U _) (ac.bs m (ac.bs (y:=A++(b.set (n+2) (c %4294967296)++C)) ?_ (ac.bs (y:=c %18446744073709551616/4294967296) ?_ ?_))))
 ·rw[oO U,K,pf U U,xX U,d4]
 ·rw[K,ln]
 rw[p2 1 U U 1 aa aa,d3];have el:=dV (n+2);have co:ae (b.set (n+2) (c %4294967296))=ae b+aD (n+2)*(c %4294967296-b[n+2]):=kW U _;have r:aI (b.set (n+2) (c %4294967296)):=v.set U U;rw[H] at w;have d7:=g8 c 4294967296;have s:ae (b.set (n+2) (c %4294967296))=ae f-g*ae d-aD (n+2)*(4294967296*(c/4294967296)):=(by rw[co];generalize c/4294967296=z at*;generalize c %4294967296=B at*;have:B=b[n+2]-e-j-4294967296*z:=U;rw[this];exact SO w);have bl:=fb r;have em:=dx r;rw[vw,p,ds,(U:n+3=(n+2)+1),ga] at bl;have M:=g8 (ae f) (ae d);have ex:=lY (ae f) (U:ae d≠0);have fn:=nz (ae f) k;rw[dM,bu];refine ac.ite (λam=>?_) λam=>?_
 ·have F:c/4294967296=0:=U;rw[F] at s;have l:ae f/ae d=g:=by
   have E:g*ae d<=ae f:=U;have L:g<=ae f/ae d:=(Int.le_ediv_iff_mul_le k).2 E;omega
  rw[bc (by simp;omega),jz Z ar];refine ac.af.2 ⟨_,by rw[l],by simp[p],r,?_⟩;rw[s];rw[l] at M;rw[gW g];omega
 have F:c/4294967296=-1:=U;rw[F] at s;have l:ae f/ae d=g-1:=(by have E:ae f<g*ae d:=U;have L:ae f/ae d<g:=oC k E;have d8:(g-1)*ae d<ae f+1:=(by have:(g-1)*ae d=g*ae d-ae d:=(by grind);omega);have d9:g-1<=ae f/ae d:=(Int.le_ediv_iff_mul_le k).2 U;omega);have fs:=ky av (dL k);have G:(b.set (n+2) (c %4294967296)).length=f.length:=(by simp[p]);rw[<-G];refine ac.aU (P:=λq=>∃e a,q=((A.length,A.length+(b.set (n+2) (c %4294967296)).length),e,A++(a++C),())/\a.length=f.length/\aI a/\0<=e/\e<=1/\ae a+aD d.length*e=ae (b.set (n+2) (c %4294967296))+ae d) (Rw i.hv r U U λe a I o f0 J S u=>⟨e,a,rfl,by rw[I,G],o,J,S,u⟩) ?_;rintro _ ⟨h,a,rfl,I,o,J,S,u⟩;rw[G];have fT:=o.get (n:=n+2) U;refine ac.bs m (ac.bs (oO U _) (ac.bs m (ac.bs (y:=A++(a.set (n+2) ((a[n+2]+h) %4294967296)++C)) ?_ ?_)))
 ·rw[oO U,xX U,jz J U,nv]
 rw[bc (by simp;omega),bV U U,jz U U];refine ac.af.2 ⟨a.set (n+2) ((a[n+2]+h) %4294967296),by rw[l],by simp[I],o.set U U,?_⟩;have cs:ae (a.set (n+2) ((a[n+2]+h) %4294967296))=ae a+aD (n+2)*((a[n+2]+h) %4294967296-a[n+2]):=kW U _;have N:aI (a.set (n+2) ((a[n+2]+h) %4294967296)):=o.set U U;have ce:=fb N;have eq:=dx N;have a4:(a.set (n+2) ((a[n+2]+h) %4294967296)).length=(n+2)+1:=(by rw[vw];omega);rw[a4,ga] at ce;have f2:=g8 (a[n+2]+h) 4294967296;rw[H] at u;have t:ae (a.set (n+2) ((a[n+2]+h) %4294967296))=ae f-(g-1)*ae d+aD (n+2)*(4294967296*(1-(a[n+2]+h)/4294967296)):=(by rw[cs];generalize(a[n+2]+h)/4294967296=z at*;generalize(a[n+2]+h) %4294967296=B at*;have:B=a[n+2]+h-4294967296*z:=U;rw[this];exact SN u s);rw[l] at M;have a3:ae f-(g-1)*ae d=ae f %ae d:=(by rw[gW (g-1)];omega);rw[a3] at t;have dl:=fb i.hv;rw[H] at dl;have ci:(a[n+2]+h)/4294967296=1:=by
  rcases gH 0 ((a[n+2]+h)/4294967296) with ap|ap
  ·omega
  exfalso;have:(a[n+2]+h)/4294967296=0:=U;rw[this] at t;omega
 rw[ci] at t;rw[t];simp
theorem sh (a:0<=b):ae (bL b.toNat)=b:=by rw[jS];omega
theorem VR {n:Nat} (f:aI d) (m:dp d) (u:d.length=n+2):∃c:Nat,c<=31/\r3 (d[n+1],())=some ((c:Int),())/\ae d*2^c<aD (n+2)/\2147483648*aD (n+1)<=ae d*2^c:=by
 have l:=f.get (n:=n+1) U;have q:d[n+1]≠0:=m _ (by rw[List.getLast?_eq_getElem?,bo U];congr 2;omega);have h:ae d=ae (d.take (n+1))+aD (n+1)*d[n+1]:=(by rw[<-fX U,c9 U]);have r:=dx (f.take (n+1));have j:=fb (f.take (n+1));rw[dX,fR U] at j;generalize d[n+1]=v at*;obtain⟨a,rfl⟩:=ew l.1;have i:0<a:=U;have t:ax a<=32:=df.2 U;have s:=nV i;obtain⟨g,o⟩:=tF i;obtain⟨b,k⟩:∃b,ax a=b+1:=⟨ax a-1,U⟩;refine⟨32-ax a,U,?_,?_,?_⟩
 ·unfold r3;refine ai (DY (n:=a) U) ?_;show some (au (32-(ax a:Int)),())=_;rw[bf U U];congr 2;omega
 ·have aj:ae d<aD (n+1)*2^ax a:=by
   have:aD (n+1)*((a:Int)+1)<=aD (n+1)*2^ax a:=hT (by rw[<-iI];omega) (dL (dV _));have p:aD (n+1)*((a:Int)+1)=aD (n+1)*(a:Int)+aD (n+1):=(by rw[Int.mul_add,Int.mul_one]);show ae d<_;rw[h];show ae (d.take (n+1))+aD (n+1)*(a:Int)<_;omega
  have e:ae d*2^(32-ax a)<aD (n+1)*2^ax a*2^(32-ax a):=pL aj (h6 _);rw[ja,<-jb,(U:ax a+(32-ax a)=32)] at e;rw[ga,gW];rw[gW];have:aD (n+1)*2^32=4294967296*aD (n+1):=(by rw[gW];rfl);omega
 have aj:aD (n+1)*2^b<=ae d:=(by have:aD (n+1)*2^b<=aD (n+1)*(a:Int):=hT (by rw[<-iI];rw[k] at g;simp only[tr] at g;omega) (dL (dV _));rw[h];show _<=ae (d.take (n+1))+aD (n+1)*(a:Int);omega);have e:aD (n+1)*2^b*2^(32-ax a)<=ae d*2^(32-ax a):=kz aj (dL (h6 _));rw[ja,<-jb,(U:b+(32-ax a)=31)] at e;have:aD (n+1)*2^31=2147483648*aD (n+1):=(by rw[gW];rfl);omega
theorem SR (g:ae d=b) (e:aI d) (l:dp d) (q:b<aD (a+2)) (r:2147483648*aD (a+1)<=b):∃c:d.length=a+2,2147483648<=d[a+1]:=by
 have t:=dV (a+1);have k:d.length=a+2:=by
  have o:=fb e;have h:d≠[]:=λi=>(by rw[i] at g;simp only[ae] at g;omega);have p:=dp.low e l h;rcases l3 d.length (a+2) with c|c|c
  ·have:=nl (m:=d.length) (n:=a+1) U;omega
  ·exact c
  have:=nl (m:=a+2) (n:=d.length-1) U;omega
 refine⟨k,?_⟩;have s:ae d=ae (d.take (a+1))+aD (a+1)*d[a+1]:=(by rw[<-fX U,c9 U]);have j:=fb (e.take (a+1));rw[dX,fR U] at j;rcases gH d[a+1] 2147483648 with f|f
 ·exfalso;have:aD (a+1)*(d[a+1]+1)<=aD (a+1)*2147483648:=hT U U;rw[Int.mul_add,Int.mul_one] at this;omega
 exact f
theorem Hp {g c h f d a:Int} (k:(f+b*(h+a))+e*c=g) (i:h=e*r+d):(f+b*(d+a))+e*(c+b*(r-0))=g:=by subst i;have aj:b*(e*r+d+a)=b*(d+a)+b*(e*r):=(by grind);have j:e*(c+b*(r-0))=e*c+b*(e*r):=(by grind);omega
theorem SQ {n:Nat} (z:aI d) (J:ae d=b) (d6:b<aD (n+2)) (L:d.length=n+2) (ap:2147483648<=d[n+1]) (ce:n<=10000000) (av:aI f) (Y:ae f=e) (W:f.length=c) (eq:c=a+(n+2)) (d5:c<=10000000) (ad:ae (f.drop a)<b) {H:h0->Prop} (X:∀i h,i.length=a->aI i->h.length=c->aI h->ae h+b*ae i=e->ae h<b->H (i,h,())):ac (loop (σ:=(Int×aQ×aQ×Unit)) (ρ:=h0) (λ(r,P,u,_)=>
 bif decide (r>=0) then
 ((fH r).bind λM=>(fH (aS (au (r+aq d)))).bind λN=>(gh M N u.length).bind λ_=>(xH u.length).map λ_=>(M,N)).bind λt=>
  bif Nat.blt t.1 t.2 then
 (v9 ((u,t.1,t.2),d,())).bind λ(bs,ci,_)=>
 wr P r ci λds=>
 some (.inl (au (r-1),ds,bs,())) else none else
 some (.inr (P,u,()))) (au (aq (List.replicate a (0:Int))-1),List.replicate a (0:Int),f,())) H:=by
 have K:0<b:=(by have o:=B6 L;have q:=dx (z.take n);have d1:=z.get (n:=n) U;have d2:0<(d[n+1]*4294967296+d[n])*aD n:=nA U (dV n);omega);refine ac.steps a (λl co=>∃i h,co=(((a:Nat):Int)-1-l,i,h,())/\i.length=a/\aI i/\(∀g,g<a-l->(Z:g<i.length)->i[g]=0)/\h.length=c/\aI h/\ae h+b*ae i=e/\ae (h.drop (a-l))<b) ⟨List.replicate a 0,f,?_,ab,aI.kb _,ab,W,av,by rw[nu,Y];omega,ad⟩ ?_ ?_
 ·rw[show au (aq (List.replicate a (0:Int))-1)=(a:Int)-1-((0:Nat):Int) from ?_];simp only[aW,oJ];rw[bf U U];omega
 ·rintro l _ el ⟨i,h,rfl,ar,E,F,G,p,o,q⟩;obtain⟨g,Z⟩:∃g,a=g+1+l:=⟨a-1-l,U⟩;have aj:((a:Nat):Int)-1-(l:Int)=(g:Int):=U;rw[(U:a-l=g+1)] at q;have R:aS (au ((g:Int)+aq d))=((g+(n+3):Nat):Int):=by
   simp only[aW];rw[bf U U,(U:(g:Int)+(d.length:Int)=((g+(n+2):Nat):Int)),bg U];rfl
  simp only[aj,az (U:(g:Int)>=0),cond_true,R,uN,aM,w8 (U:g<=g+(n+3)/\g+(n+3)<=h.length),KR (U:0<h.length),fB,show Nat.blt g (g+(n+3))=true from by simp];obtain⟨m,v⟩:∃m,m=h.take g:=⟨_,rfl⟩;obtain⟨j,B⟩:∃j,j=(h.drop g).take (n+3):=⟨_,rfl⟩;obtain⟨k,x⟩:∃k,k=h.drop (g+(n+3)):=⟨_,rfl⟩;have w:m.length=g:=(by rw[v,dX];omega);have s:j.length=n+3:=(by rw[B,dX,kC];omega);have y:h=m++(j++k):=(by rw[v,B,x,<-nE,kE,kE]);have d3:k.length=c-(g+(n+3)):=(by rw[x,kC,G]);have bl:aI m:=(by rw[v];exact p.take g);have D:aI j:=(by rw[B];exact(p.drop g).take _);have O:aI k:=(by rw[x];exact p.drop _);have d7:ae (h.drop g)=ae j+aD (n+3)*ae k:=(by rw[y,oD U,oE U,fr,j8,s]);have d8:ae (h.drop g)=h[g]+4294967296*ae (h.drop (g+1)):=j9 U;have fn:=p.get (n:=g) U;have T:=dx O;have d4:0<=aD (n+3)*ae k:=ls (dL (dV _)) T;have em:ae (h.drop g)<4294967296*b:=U;have V:ae k=0:=by
   rcases gH 0 (ae k) with S|S
   ·exfalso;have:=hT (U:1<=ae k) (dL (dV (n+3)));have d0:aD (n+3)=4294967296*aD (n+2):=ga (n+2);have:=dx D;omega
   omega
  have Q:vl d j n:=⟨z,D,L,s,ce,ap,by rw[J];omega⟩;have am:0<=ae j/b:=Int.ediv_nonneg (dx D) U;have an:ae j/b<4294967296:=Int.ediv_lt_of_lt_mul K U;have d9:=Int.emod_add_mul_ediv (ae j) b;have ex:=Int.emod_lt_of_pos (ae j) K;have I:=SP (A:=m) (C:=k) Q;rw[<-y,w,s,J] at I;refine ac.aU I ?_;rintro _ ⟨cs,rfl,cv,dl,bX⟩;dsimp only;rw[i5 U];refine ac.af.2 ⟨i.set g (ae j/b),m++(cs++k),?_,by simp[ar],E.set am an,?_,by simp;omega,aI.append.2 ⟨bl,aI.append.2 ⟨dl,O⟩⟩,?_,?_⟩
  ·rw[bf U U];congr 1;omega
  ·intro a3 fp a4;rw[ru U];exact F a3 U (by simpa using a4)
  ·rw[kW U,F g U U,j8,j8,w,bX];rw[y,j8,j8,w] at o;rw[cv];rw[s] at o;have a0:ae j=b*(ae j/b)+ae j %b:=U;exact Hp o a0
  rw[(U:a-(l+1)=g),oD U,oE U,fr,j8,V,bX];omega
 rintro _ ⟨i,h,rfl,ar,E,F,G,p,o,q⟩;have aj:¬(((a:Nat):Int)-1-(a:Int)>=0):=U;simp only[aw aj,cond_false];rw[Nat.sub_self,lu] at q;exact ac.af.2 (X i h ar E G p o q)
theorem Bx {A B q r:Int} (f:0<B) (b:A=B*q+r) (c:0<=r) (d:r<B):A/B=q/\A %B=r:=by have e:=g8 A B;have a:A/B=q:=(by rw[b,Int.mul_add_ediv_left _ _ U,ny c d];omega);refine⟨a,?_⟩;rw[a] at e;omega
theorem Hr (l:aI d) (p:aI f) (W:dp d) (F:dp f) (fs:d.length<=1000000) (ft:f.length<=1000000) (N:f≠[]):wa (d,f,())=some (bL (ae d/ae f).toNat,bL (ae d %ae f).toNat,()):=by
 unfold wa;refine ac.eq_iff.1 ?_;have K:=dx l;have I:0<ae f:=(by have:=dx p;have:ae f≠0:=λY=>N (dp.zero p F Y);omega);refine ac.bs (yM l p W F U U) ?_;dsimp only;rw[bu];refine ac.ite (λt=>?_) λt=>?_
 ·have C:ae d<ae f:=by
   unfold dy at t;split at t
   ·assumption
   split at t<;>omega
  refine ac.bs (vK U) (ac.af.2 ?_);rw[ny K C,pK K C];show(([]:cZ),d,())=(bL 0,bL (ae d).toNat,());rw[De,<-dp.eq l W]
 have ex:ae f<=ae d:=by
  unfold dy at t;split at t
  ·omega
  omega
 rw[dM,bu];refine ac.ite (λh=>?_) λh=>?_
 ·have h:f.length=1:=(by simp only[aW] at h;omega);obtain⟨o,rfl⟩:=List.length_eq_one_iff.1 h;have ce:=(aI.cons.1 p).1;have u:ae [o]=o:=(by simp[ae]);rw[u] at I|-;have d3:0<=ae d %o:=Int.emod_nonneg _ U;have fp:ae d %o<o:=Int.emod_lt_of_pos _ I;refine ac.bs (y:=o) rfl (ac.bs (ZT l U U ce.2) ?_);dsimp only;refine ac.bs (mJ (aI.cons.2 ⟨⟨d3,U⟩,aI.nil⟩) ab) (ac.af.2 ?_);show(_,fy [ae d %o],())=_;rw[fy];simp[ae]
 obtain⟨b,co⟩:∃b,f.length=b+2:=(by have:=yi.2 N;simp only[aW] at h;exact⟨f.length-2,U⟩);have aj:au (aq f-1)=((b+1:Nat):Int):=(by simp only[aW];rw[bf U U];omega);obtain⟨a,T,d5,V,d6⟩:=VR p F co;have fn:b+2<=d.length:=by
  rcases bp d.length (b+2) with j|j
  ·have:=ow l p F U;omega
  exact j
 have D:=h6 a;refine ac.bs (y:=f[b+1]) (by rw[aj];exact bM U) (ac.bs d5 ?_);refine ac.bs (B0 p U U) ?_;obtain⟨s,u⟩:∃s,s=bL (ae f*2^a).toNat:=⟨_,rfl⟩;have a0:0<=ae f*2^a:=Int.mul_nonneg U U;have M:ae s=ae f*2^a:=(by rw[u,sh a0]);have be:aI s:=(by rw[u];exact iA _);have d7:dp s:=(by rw[u];exact mm _);obtain⟨d0,cs⟩:=SR M be d7 V d6;rw[<-u];have Z:aS (aq d)=((d.length+1:Nat):Int):=bg U;refine ac.bs (y:=d.length+1) (by rw[Z];exact gE U) ?_;refine ac.bs (B0 l U U) ?_;have av:0<=ae d*2^a:=Int.mul_nonneg U U;have em:ae d*2^a<aD (d.length+1):=(by have w:ae d*2^a<aD d.length*2^a:=Int.mul_lt_mul_of_pos_right (fb l) D;have x:aD d.length*2^a<=aD d.length*4294967296:=Int.mul_le_mul_of_nonneg_left (by have:=sQ T;omega) (Int.le_of_lt (dV _));rw[ga,Int.mul_comm 4294967296];omega);obtain⟨m,E⟩:∃m,m=bL (ae d*2^a).toNat:=⟨_,rfl⟩;have R:m.length<=d.length+1:=(by rw[E];exact o7 U);have d2:aI m:=(by rw[E];exact iA _);have d1:ae m=ae d*2^a:=(by rw[E,sh av]);rw[<-E];obtain⟨i,O⟩:∃i,i=jP (List.replicate (d.length+1) (0:Int)) m 0 (List.replicate (d.length+1) (0:Int)).length:=⟨_,rfl⟩;have J:i=m++List.replicate (d.length+1-m.length) 0:=(by rw[O];unfold jP;rw[List.take_zero,List.nil_append,List.length_replicate,Nat.sub_zero,List.take_of_length_le R,Nat.zero_add,Nat.min_eq_left R,List.drop_replicate]);have dl:i.length=d.length+1:=(by rw[J];simp;omega);have S:aI i:=(by rw[J];exact aI.append.2 ⟨d2,aI.kb _⟩);have Q:ae i=ae d*2^a:=(by rw[J,j8,nu,d1];omega);dsimp only;rw[<-O];obtain⟨g,ci⟩:∃g,d.length+1=g+(b+2):=⟨d.length+1-(b+2),U⟩;have ad:au (aq i-aq s)=((g:Nat):Int):=(by simp only[aW];rw[bf U U];omega);refine ac.bs (y:=g) (by rw[ad];exact gE U) ?_;have C:ae (i.drop g)<ae f*2^a:=(by have h:=mL i g U;have w:=dx (S.take g);rw[Q] at h;have x:ae d*2^a<aD d.length*2^a:=Int.mul_lt_mul_of_pos_right (fb l) D;have H:aD d.length=aD g*aD (b+1):=(by rw[<-rm];congr 1;omega);have v:aD g*ae (i.drop g)<aD g*(aD (b+1)*2^a):=(by rw[<-Int.mul_assoc,<-H];omega);have z:=Int.lt_of_mul_lt_mul_left v (Int.le_of_lt (dV g));have el:aD (b+1)*2^a<=aD (b+1)*2147483648:=Int.mul_le_mul_of_nonneg_left (sQ T) (Int.le_of_lt (dV _));omega);refine ac.aU (P:=λX=>∃c e,X=(c,e,())/\c.length=g/\aI c/\e.length=d.length+1/\aI e/\ae e+ae f*2^a*ae c=ae d*2^a/\ae e<ae f*2^a) (SQ be M V d0 cs U S Q dl ci U C λc e h w x H v z=>⟨c,e,rfl,h,w,x,H,v,z⟩) ?_;rintro _ ⟨c,e,rfl,ar,d4,fz,G,v,z⟩;have am:aq s=((b+2:Nat):Int):=(by simp only[aW];omega);dsimp only;rw[am];refine ac.bs (BM U) ?_;have cv:=dx G;have ds:ae (e.take (b+2))=ae e:=by
  have h:=mL e (b+2) U;have w:=dx (G.drop (b+2));have x:=dx (G.take (b+2));rcases gH 0 (ae (e.drop (b+2))) with j|j
  ·exfalso;have:=hT (U:1<=ae (e.drop (b+2))) (dL (dV (b+2)));omega
  rw[(U:ae (e.drop (b+2))=0)] at h;omega
 have L:ae e=2^a*(ae d-ae f*ae c):=(by have d8:ae f*2^a*ae c=2^a*(ae f*ae c):=(by grind);have d9:2^a*(ae d-ae f*ae c)=2^a*ae d-2^a*(ae f*ae c):=Int.mul_sub ..;rw[gW (ae d)] at v;omega);have a3:0<=ae d-ae f*ae c:=by
  rcases gH (ae d-ae f*ae c) 0 with j|j
  ·have:=Int.mul_neg_of_pos_of_neg D j;omega
  exact j
 have a4:ae d-ae f*ae c<ae f:=(by have:2^a*(ae d-ae f*ae c)<2^a*ae f:=(by rw[<-L,Int.mul_comm (2^a)];exact z);exact Int.lt_of_mul_lt_mul_left this (Int.le_of_lt D));have bl:ae e/2^a=ae d-ae f*ae c:=(by rw[L];exact Int.mul_ediv_cancel_left _ U);obtain⟨ap,f2⟩:=Bx (A:=ae d) (B:=ae f) (q:=ae c) (r:=ae d-ae f*ae c) I U a3 a4;refine ac.bs (mJ ((G.take _).drop _) (by simp;omega)) ?_;have an:fy (List.drop 0 (e.take (b+2)))=bL (ae e).toNat:=(by rw[List.drop_zero,fy,ds]);dsimp only;rw[an];refine ac.bs (C8 (iA _) (mm _) ?_ U) ?_
 ·have:=o7 (n:=(ae e).toNat) (k:=b+2) U;omega
 dsimp only;refine ac.bs (mJ d4 U) (ac.af.2 ?_);show(fy c,_,())=_;rw[sh cv,bl,ap,f2,fy]
theorem qx (a:Nat):bL (a:Int).toNat=bL a:=by rw[de]
theorem S5 (c:0<a):bL a≠[]:=λb=>by have:=Dc.1 b;omega
theorem m2 {n k:Nat} (a:ax n<=32*k):(bL n).length<=k:=by refine o7 ?_;have:=df.1 a;rw[oA,<-iI];omega
theorem Js (i:0<a) (j:c*c<=g):c<=(a+g/a)/2:=by
 rw[yk aa];rcases bp (c*2) a with e|e
 ·exact da (Nat.le_of_lt e) (Nat.le_add_right _ _)
 have k:c*2-a<=g/a:=by
  rw[yk i];obtain⟨b,f⟩:∃b,c*2=a+b:=⟨c*2-a,U⟩;rw[f,lB];have l:4*(c*c)=(a+b)*(a+b):=(by rw[<-f];grind);have m:(a+b)*(a+b)=a*a+2*(b*a)+b*b:=(by grind);rcases Nat.le_total a b with h|h
  ·obtain⟨d,rfl⟩:∃d,b=a+d:=⟨b-a,U⟩;have:(a+d)*(a+d)=a*a+2*(a*d)+d*d:=(by grind);have:(a+d)*a=a*a+a*d:=(by grind);omega
  obtain⟨d,rfl⟩:∃d,a=b+d:=⟨a-b,U⟩;have:(b+d)*(b+d)=b*b+2*(b*d)+d*d:=(by grind);have:b*(b+d)=b*b+b*d:=(by grind);omega
 omega
theorem Jt (d:0<a) (e:a<=(a+c/a)/2):a*a<=c:=by have b:a<=c/a:=U;rwa[yk d] at b
theorem qb:dy b e>=0↔e<=b:=by
 unfold dy;split
 ·omega
 split<;>omega
theorem G8:dy b e<0↔b<e:=by
 unfold dy;split
 ·omega
 split<;>omega
theorem Zw (m:ax c<=2000000):zn (bL c,())=some (bL (bC c),()):=by
 unfold zn;refine ac.eq_iff.1 ?_;dsimp only;rw[pe,bu];refine ac.ite (λe=>?_) λe=>?_
 ·have:=Dc.1 e;subst this;exact ac.af.2 rfl
 have v:0<c:=by
  rcases h9 c with d|d
  ·subst d;exact absurd rfl e
  exact d
 have x:(bL c).length<=62500:=m2 U;obtain⟨h,r⟩:=pd c;have z:0<bC c:=by
  rcases h9 (bC c) with d|d
  ·rw[d] at r;omega
  exact d
 refine ac.bs (DZ (iA c) (mm c) U) ?_;rw[jS,de];have aj:gm IntKind.i64 (aS (ax c:Int)) 2=some (((ax c+1)/2:Nat):Int):=(by unfold gm;rw[bg U,if_pos aa,vq U,wrap64 U U];simp);refine ac.bs aj ?_;refine ac.bs (B0 (a:=[1]) (aI.cons.2 ⟨aa,aI.nil⟩) ab U) ?_;have i:(ae [1]*2^((ax c+1)/2)).toNat=2^((ax c+1)/2):=(by rw[show ae [1]=1 from by simp[ae],Int.one_mul,<-iI,de]);rw[i];refine ac.aU (P:=λq=>q=(bL (bC c),())) ?_ (by rintro _ rfl;exact ac.af.2 rfl);refine ac.loop (λg=>∃b,g=(bL b,())/\bC c<=b/\ax b<=3000000) (λg=>(ae g.1).toNat) ⟨_,rfl,?_,?_⟩ ?_
 ·refine BO h ?_;have k:=df.1 (a8 (ax c));have l:2^ax c<=2^((ax c+1)/2)*2^((ax c+1)/2):=by
   rw[<-gX];exact nL aa U
  have t:=ia (Nat.le_add_right (2^((ax c+1)/2)) 1) (Nat.le_add_right (2^((ax c+1)/2)) 1);omega
 ·rw[df];exact xF _ 3000000 U
 rintro _ ⟨b,rfl,D,s⟩;have f:0<b:=U;have B:(bL b).length<=93750:=m2 U;dsimp only;refine ac.bs (Hr (iA c) (iA b) (mm c) (mm b) U U (S5 f)) ?_;rw[jS,jS,<-Int.natCast_ediv,qx];dsimp only;have y:(bL (c/b)).length<=62500:=(by refine m2 ?_;have:c/b<=c:=Nat.div_le_self _ _;have k:=df.1 m;have:ax (c/b)<=2000000:=df.2 U;omega);refine ac.bs (EP (iA b) (iA (c/b)) U U) ?_;rw[jS,jS,<-Int.natCast_add,qx];dsimp only;have w:ax (b+c/b)<=3000001:=(by refine GX 3000000 s ?_;have l:=hJ (Nat.div_le_self c b);omega);have A:(bL (b+c/b)).length<=93751:=m2 U;refine ac.bs (C8 (n:=1) (iA _) (mm _) U U) ?_;have j:(ae (bL (b+c/b))/2^1).toNat=(b+c/b)/2:=(by rw[jS,show(2:Int)^1=((2:Nat):Int) from rfl,<-Int.natCast_ediv];rfl);rw[j];dsimp only;have p:ax ((b+c/b)/2)<=3000000:=(by have:=oR (b+c/b) 1;rw[Nat.pow_one] at this;omega);have C:(bL ((b+c/b)/2)).length<=93750:=m2 U;refine ac.bs (yM (iA _) (iA b) (mm _) (mm b) U U) ?_;rw[jS,jS];dsimp only;rw[bu];refine ac.ite (λd=>?_) λd=>?_
 ·refine ac.af.2 ?_;have o:b<=(b+c/b)/2:=(by have:=qb.1 d;omega);have:=Jt f o;rw[AU this (by
   have u:=ia (U:bC c+1<=b+1) (U:bC c+1<=b+1);omega)]
 refine ac.af.2 ⟨⟨(b+c/b)/2,rfl,Js f h,p⟩,?_⟩;show(ae (bL ((b+c/b)/2))).toNat<(b:Int).toNat;rw[jS,de,de];have:=mt qb.2 d;omega
def ya (a:nx):Prop:=aI a.2.1/\dp a.2.1/\a.2.1.length<=100000
theorem fO {z:Int} (a:ax z.natAbs<=3000000):ya (aG z):=⟨kK z,Ax z,m2 U⟩
theorem mI (a:aI d) (c:dp d) (e:d.length<=1000000):gJ (d,())=some (d,()):=by have b:=dp.eq a c;rw[mJ a U];show some (bL (ae d).toNat,())=_;rw[<-b]
theorem oQ {neg:Bool} {x:Int} (a:0<=x) (b:(bL x.toNat).length<=100000000):jQ (neg,bL x.toNat,())=some (aG (if neg then-x else x),()):=by rw[tC (iA _) b];unfold e6;simp only[sh a]
theorem S4 {x y:Nat} {k:Nat} (a:(bL x).length<=k) (b:(bL y).length<=k):(bL (x+y)).length<=k+1:=by refine o7 ?_;have c:=HH x;have d:=HH y;have e:=nl a;have f:=nl b;have g:=dV k;rw[ga];omega
theorem x4 {l:cZ} (d:aI l) (c:l.length<=a) (g:b<=ae l):(bL b.toNat).length<=a:=by refine o7 ?_;have e:=fb d;have f:=nl c;have:=dV a;omega
theorem Gi {a b:nx} (t:ya a) (u:ya b):qh (a,b,())=some (aG (e6 a+e6 b),()):=by
 obtain⟨i,a,_⟩:=a;obtain⟨h,b,_⟩:=b;obtain⟨c,j,r⟩:=t;obtain⟨d,k,s⟩:=u;dsimp only at c j r d k s;have y:=dx c;have z:=dx d;have ar:=fb c;have A:=fb d;have B:=nl (m:=a.length) (n:=100000) r;have C:=nl (m:=b.length) (n:=100000) s;have D:=dV 100000;have x:∀e:Int,e<=ae a+ae b->(bL e.toNat).length<=100000001:=λe v=>(by have:(bL e.toNat).length<=100001:=(by refine o7 ?_;rw[show(100001:Nat)=100000+1 from rfl,ga];generalize aD 100000=w at*;omega);omega);have q:∀e:Int,e<=ae a+ae b->(bL e.toNat).length<=100000000:=λe v=>(by have:(bL e.toNat).length<=100001:=(by refine o7 ?_;rw[show(100001:Nat)=100000+1 from rfl,ga];generalize aD 100000=w at*;omega);omega);unfold qh;dsimp only;refine ai (mI c j U) (ai (mI d k U) ?_);dsimp only;cases f:(i==h) with
 |true=>
  have f:i=h:=(by simpa using f);subst f;refine ai (EP c d U U) (ai (oQ U (q _ U)) ?_);dsimp only;congr 3;unfold e6;cases i<;>simp<;>omega
 |false=>
  have f:i=!h:=(by cases i<;>cases h<;>simp at f|-);refine ai (yM c d j k U U) ?_;dsimp only;rw[bu];split
  ·rename_i l;have p:ae b<=ae a:=qb.1 l;have o:b.length<=a.length:=by
    rcases bp a.length b.length with g|g
    ·have:=ow c d k g;omega
    exact g
   refine ai (I3 c d U o p) (ai (oQ U (q _ U)) ?_);dsimp only;congr 3;unfold e6;subst f;cases h<;>simp<;>omega
  rename_i l;have p:ae a<ae b:=Int.not_le.1 (mt qb.2 l);have o:a.length<=b.length:=by
   rcases bp b.length a.length with g|g
   ·have:=ow d c j g;omega
   exact g
  refine ai (I3 d c U o (Int.le_of_lt p)) (ai (oQ U (q _ U)) ?_);dsimp only;congr 3;unfold e6;subst f;cases h<;>simp<;>omega
theorem Cq {x y:Int} (a:ax x.natAbs<=3000000) (b:ax y.natAbs<=3000000):qh (aG x,aG y,())=some (aG (x+y),()):=by rw[Gi (fO a) (fO b),mK,mK]
theorem aah {x y:Int} (d:ax x.natAbs<=3000000) (e:ax y.natAbs<=3000000):zm (aG x,aG y,())=some (aG (x-y),()):=by unfold zm;have a:ya ((!(aG y).1,(aG y).2):nx):=⟨kK y,Ax y,(fO e).2.2⟩;refine ai (Gi (fO d) a) ?_;rw[mK];have b:e6 ((!(aG y).1,(aG y).2):nx)=-y:=(by have:=B4 (aG y).1 (aG y).2.1;have c:=mK y;exact this.trans (congrArg _ c));rw[b];rfl
theorem Jh {x y:Int} (g:ax x.natAbs<=3000000) (h:ax y.natAbs<=3000000):v7 (aG x,aG y,())=some (aG (x*y),()):=by
 unfold v7;dsimp only;obtain⟨d,i,l⟩:=fO g;obtain⟨e,j,m⟩:=fO h;refine ai (mI d i U) (ai (mI e j U) ?_);dsimp only;refine ai (aaB d e U U) ?_;rw[gd,gd,<-Int.natCast_mul,qx];dsimp only;have k:(bL (x.natAbs*y.natAbs)).length<=100000000:=(by have:(bL (x.natAbs*y.natAbs)).length<=200000:=(by refine m2 ?_;have:=nU g h;omega);omega);have f:=oQ (neg:=!((aG x).1==(aG y).1)) (x:=((x.natAbs*y.natAbs:Nat):Int)) U (by rw[qx];exact k);rw[qx] at f;refine ai f ?_;dsimp only;congr 3;show(if(!(decide (x<0)==decide (y<0)))=true then _ else _)=_;rw[Int.natCast_mul];rcases Int.lt_or_le x 0 with b|b<;>rcases Int.lt_or_le y 0 with c|c
 ·rw[az b,az c];have aj:(x.natAbs:Int)=-x:=U;have a:(y.natAbs:Int)=-y:=U;rw[aj,a];simp<;>grind
 ·rw[az b,aw (U:¬y<0)];have aj:(x.natAbs:Int)=-x:=U;have a:(y.natAbs:Int)=y:=U;rw[aj,a];simp<;>grind
 ·rw[az c,aw (U:¬x<0)];have aj:(x.natAbs:Int)=x:=U;have a:(y.natAbs:Int)=-y:=U;rw[aj,a];simp<;>grind
 rw[aw (U:¬y<0),aw (U:¬x<0)];have aj:(x.natAbs:Int)=x:=U;have a:(y.natAbs:Int)=y:=U;rw[aj,a];simp
theorem CG {x y:Int} (i:ax x.natAbs<=900000) (l:ax y.natAbs<=900000):tR (aG x,aG y,())=some (dy x y,()):=by
 obtain⟨d,e,m⟩:=fO (z:=x) U;obtain⟨f,g,n⟩:=fO (z:=y) U;unfold tR;refine ai (py (hA U)) (ai (py (hA U)) ?_);dsimp only;rw[bu,bu];have a:∀b:Int,b<0/\dH b=-1\/b=0/\dH b=0\/0<b/\dH b=1:=λb=>by
  unfold dH;split
  ·omega
  split<;>omega
 split
 ·rename_i o;unfold dy;rw[if_pos (by have:=a x;have:=a y;omega)]
 split
 ·rename_i j k;unfold dy;rw[if_neg (by have:=a x;have:=a y;omega),if_pos (by have:=a x;have:=a y;omega)]
 rename_i j k;have q:dH x=dH y:=U;refine ai (mI d e U) (ai (mI f g U) ?_);dsimp only;refine ai (yM d f e g U U) ?_;rw[gd,gd];dsimp only;have i:=a x;have l:=a y;have:dH x*dy (x.natAbs:Int) (y.natAbs:Int)=dy x y:=by
  rcases i with⟨h,c⟩|⟨h,c⟩|⟨h,c⟩<;>rw[c]
  ·unfold dy;split
   ·rw[if_neg U,if_pos U];rfl
   split
   ·rw[if_pos U];rfl
   rw[if_neg U,if_neg U];rfl
  ·rw[pP];unfold dy;rw[if_neg U,if_neg U]
  unfold dy;rw[Int.one_mul];split
  ·rw[if_pos U]
  split
  ·rw[if_neg U,if_pos U]
  rw[if_neg U,if_neg U]
 rw[this];have p:-1<=dy x y/\dy x y<=1:=by
  unfold dy;split
  ·omega
  split<;>omega
 rw[bf U U]
theorem Jl (b:Int) (a:Nat):(b.natAbs:Int)*2^a=((b.natAbs*2^a:Nat):Int):=by simp
theorem p7 {m n:Nat}:ax (m*2^n)<=ax m+n:=by
 rcases h9 m with a|a
 ·subst a;simp[RZ]
 rw[k8 a];exact a8 _
theorem ZS (j:ax b.natAbs<=1900000) (i:a<=1048576):oX (aG b,(a:Int),())=some (aG (b*2^a),0,()):=by
 obtain⟨c,e,g⟩:=fO (z:=b) U;unfold oX;dsimp only;rw[aw (U:¬((a:Int)< -1048576)),aw (U:¬((a:Int)>1048576))];refine ai rfl (ai (mI c e U) ?_);dsimp only;rw[az (U:(a:Int)>=0)];refine ai (B0 c U U) ?_;rw[gd,Jl];have h:(bL (b.natAbs*2^a)).length<=100000:=m2 (by have:=p7 (m:=b.natAbs) (n:=a);omega);have f:=oQ (neg:=(aG b).1) (x:=((b.natAbs*2^a:Nat):Int)) U (by rw[qx];omega);refine ai f ?_;dsimp only;congr 3;show(if decide (b<0)=true then _ else _)=_;rw[<-Jl];by_cases d:b<0
 ·rw[if_pos (az d),<-Int.neg_mul];congr 1;omega
 rw[if_neg (by simpa using d)];congr 1;omega
theorem Jq {m:Int} (a:0<b) (d:0<=m):-m/b=if m %b=0 then-(m/b) else-(m/b+1):=by
 have e:=g8 m b;have f:=lY m (U:b≠0);have g:=nz m a;split
 ·rename_i c;refine(Bx (A:=-m) (B:=b) (q:=-(m/b)) (r:=0) a ?_ (lZ _) a).1;rw[Int.mul_neg];omega
 rename_i c;refine(Bx (A:=-m) (B:=b) (q:=-(m/b+1)) (r:=b-m %b) a ?_ U U).1;rw[Int.mul_neg,Int.mul_add,Int.mul_one];omega
theorem ZR (w:ax b.natAbs<=1900000) (u:a<=1048576) (v:0<a):oX (aG b,-(a:Int),())=some (aG (b/2^a),0,()):=by
 obtain⟨f,i,n⟩:=fO (z:=b) U;have q:=h6 a;unfold oX;dsimp only;rw[aw (U:¬(-(a:Int)< -1048576)),aw (U:¬(-(a:Int)>1048576))];refine ai rfl (ai (mI f i U) ?_);dsimp only;rw[aw (U:¬(-(a:Int)>=0))];have aj:au (0- -(a:Int))=(a:Int):=(by rw[bf U U];omega);rw[aj];refine ai (C8 f i U U) ?_;rw[gd];have r:0<=(b.natAbs:Int)/2^a:=Int.ediv_nonneg U U;have h:(b.natAbs:Int)/2^a<=b.natAbs:=Int.ediv_le_self _ U;have g:∀e:Int,e<=b.natAbs->(bL e.toNat).length<=100000:=λe s=>x4 (l:=(aG b).2.1) f n (by rw[gd];exact s);have t:(bL ((b.natAbs:Int)/2^a+1).toNat).length<=100001:=(by have p:=S4 (x:=((b.natAbs:Int)/2^a).toNat) (y:=1) (k:=100000) (g _ h) aa;have o:((b.natAbs:Int)/2^a+1).toNat=((b.natAbs:Int)/2^a).toNat+1:=U;rw[o];exact p);dsimp only;refine ai (y:=(bL (if b<0/\(b.natAbs:Int) %2^a≠0 then(b.natAbs:Int)/2^a+1 else(b.natAbs:Int)/2^a).toNat,(false,([],())),())) ?_ ?_
 ·refine ai (y:=(decide (b<0/\(b.natAbs:Int) %2^a≠0),(false,([],())),())) ?_ ?_
  ·show(bif decide (b<0)==true then _ else _)=_;by_cases c:b<0
   ·simp[c]
   simp[c]
  dsimp only;by_cases c:b<0/\(b.natAbs:Int) %2^a≠0
  ·rw[az c,if_pos c];refine ai (EP (iA _) (aI.cons.2 ⟨aa,aI.nil⟩) (by have:=g _ h;omega) ab) ?_;rw[sh r,show ae [1]=1 from by simp[ae]]
  rw[aw c,if_neg c];rfl
 dsimp only;refine ai (oQ ?_ ?_) ?_
 ·split<;>omega
 ·split
  ·omega
  have:=g _ h;omega
 dsimp only;congr 3;show(if decide (b<0)=true then _ else _)=_;by_cases c:b<0
 ·rw[if_pos (az c)];have j:=Jq (m:=b.natAbs) q U;rw[(U:-(b.natAbs:Int)=b)] at j;rw[j];by_cases d:(b.natAbs:Int) %2^a=0
  ·rw[if_pos d,if_neg (by simp[d])]
  rw[if_neg d,if_pos ⟨c,d⟩]
 rw[if_neg (by simpa using c),if_neg (by simp[c])];congr 1;omega
theorem SS {x y:Int} (v:ax x.natAbs<=1900000) (A:ax y.natAbs<=1900000) (w:0<=x) (n:y≠0):zi (aG x,aG y,())=some (aG (x/y),aG (x %y),0,()):=by
 obtain⟨c,f,i⟩:=fO (z:=x) U;obtain⟨d,g,j⟩:=fO (z:=y) U;unfold zi;dsimp only;refine ai (mI d g U) ?_;dsimp only;have h:(aG y).2.1≠[]:=λk=>n (uj.1 k);rw[pe,aw h];refine ai (mI c f U) ?_;dsimp only;refine ai (Hr c d f g U U h) ?_;rw[gd,gd];dsimp only;have q:(aG x).1=false:=aw U;have r:0<=(x.natAbs:Int)/(y.natAbs:Int):=Int.ediv_nonneg U U;have s:(x.natAbs:Int)/(y.natAbs:Int)<=x.natAbs:=Int.ediv_le_self _ U;have t:0<=(x.natAbs:Int) %(y.natAbs:Int):=Int.emod_nonneg _ U;have u:(x.natAbs:Int) %(y.natAbs:Int)<(y.natAbs:Int):=Int.emod_lt_of_pos _ U;have o:∀a:Int,a<=x.natAbs->(bL a.toNat).length<=100000:=λa e=>x4 (l:=(aG x).2.1) c i (by rw[gd];exact e);have p:∀a:Int,a<=y.natAbs->(bL a.toNat).length<=100000:=λa e=>x4 (l:=(aG y).2.1) d j (by rw[gd];exact e);rw[q];refine ai rfl ?_;dsimp only;refine ai (oQ r (by have:=o _ s;omega)) (ai (oQ t (by have:=p _ (Int.le_of_lt u);omega)) ?_);dsimp only;have aj:(x.natAbs:Int)=x:=U;rw[aj];have m:x %(y.natAbs:Int)=x %y:=by
  rcases gH y 0 with b|b
  ·rw[(U:(y.natAbs:Int)=-y),Int.emod_neg]
  rw[(U:(y.natAbs:Int)=y)]
 rw[m];congr 3;show(if(!(false==decide (y<0)))=true then _ else _)=_;rcases gH y 0 with b|b
 ·rw[az b,(U:(y.natAbs:Int)=-y),Int.ediv_neg];simp
 rw[aw (U:¬y<0),(U:(y.natAbs:Int)=y)];simp
theorem Z6 {x:Int} (f:ax x.natAbs<=900000) (i:0<=x):zl (aG x,())=some (aG (bC x.toNat),0,()):=by
 obtain⟨c,d,h⟩:=fO (z:=x) U;unfold zl;refine ai (py (hA U)) ?_;dsimp only;rw[aw (by unfold dH;split;omega;split<;>omega)];refine ai (mI c d U) ?_;have e:(aG x).2.1=bL x.toNat:=(by show bL x.natAbs=_;congr 1;omega);dsimp only;rw[e];refine ai (Zw (by rw[(U:x.toNat=x.natAbs)];omega)) ?_;dsimp only;have l:bC x.toNat<=x.toNat:=by
  obtain⟨g,m⟩:=pd x.toNat;rcases h9 (bC x.toNat) with a|a
  ·omega
  exact da (Nat.le_mul_of_pos_left _ a) g
 have b:=oQ (neg:=false) (x:=(bC x.toNat:Int)) U (by
  rw[qx];have:=m2 (n:=bC x.toNat) (k:=100000) (by
   rw[df];have:=df.1 f;have j:=KJ 900000 (32*100000) aa;omega)
  omega)
 rw[qx] at b;refine ai b ?_;rfl
theorem AG {n:Int} (d:-9223372036854775808<=n) (e:n<=9223372036854775807):rZ (n,())=some (aG n,()):=by
 unfold rZ;dsimp only;obtain⟨a,f,c,g⟩:∃a:Int,a=n.natAbs/\0<=a/\a<=9223372036854775808:=⟨_,rfl,U,U⟩;refine ai (y:=(a,(false,([],())),())) ?_ ?_
 ·rw[bu];split
  ·rename_i b;rw[ka n,ka];congr 2;omega
  rename_i b;rw[ka];congr 2;omega
 dsimp only;rw[ln,Option.bind_some,pf c U,jz (x:=a/4294967296) U U];refine ai (tC (aI.cons.2 ⟨⟨U,U⟩,aI.cons.2 ⟨⟨U,U⟩,aI.nil⟩⟩) ab) ?_;dsimp only;congr 2;congr 1;unfold e6;simp only[ae];by_cases b:n<0
 ·simp[b];omega
 simp[b];omega
theorem Uu (e:aI d) (s:d.length<=2) {f:bb->Prop} (l:f (ae d,())):ac (loop (σ:=k6) (ρ:=bb) (λ(j,b,_)=>
 bif decide (b<aq d) then
 (ay d b).bind λp=>
 (gn IntKind.u64 (aF p) (au (32*b))).bind λq=>
 some (.inl (eA IntKind.u64 j q,aS b,())) else
 some (.inr (j,()))) (0,0,())) f:=by
 refine ac.steps d.length (λa o=>o=(ae (d.take a),(a:Int),())) rfl ?_ ?_
 ·rintro a _ c rfl;have i:=e.get c;simp only[az (show(a:Int)<aq d by simp only[aW];omega),cond_true,bM c,aM];have k:=dx (e.take a);have g:=fb (e.take a);rw[dX,fR U,oA] at g;have aj:au (32*(a:Int))=((32*a:Nat):Int):=(by rw[bf U U];simp);have m:(2:Int)^(32*a)<=4294967296:=by
   rcases(U:a=0\/a=1) with rfl|rfl<;>decide
  have n:=h6 (32*a);have r:d[a]*2^(32*a)<4294967296*4294967296:=(by have:=hT m i.1;omega);have h:0<=d[a]*2^(32*a):=ls i.1 (dL n);rw[aj,bV (x:=d[a]) U U,lU U U,aM,de,pK h U,lh (32*a) k g h U U (Int.mul_emod_left _ _),bg U];refine ac.af.2 ?_;rw[fX c,oA,gW (2^(32*a))]
 rintro _ rfl;simp only[aw (show¬((d.length:Int)<aq d) by simp only[aW];omega),cond_false];rw[c9 (a8 _)];exact ac.af.2 l
theorem Uv {z:Int} (h:0<=z) (c:z<9223372036854775808):zj (aG z,())=some (z,true,()):=by have i:ax z.natAbs<=64:=df.2 U;obtain⟨a,b,g⟩:=fO (z:=z) U;have d:(aG z).2.1.length<=2:=m2 U;unfold zj;dsimp only;refine ac.eq_iff.1 ?_;refine ac.bs (mI a b U) ?_;dsimp only;rw[aw (show¬(aq (aG z).2.1>2) by simp only[aW];omega),cond_false];refine ac.aU (P:=λf=>f=(z,())) (Uu a d (by rw[gd];congr 1;omega)) ?_;rintro _ rfl;have e:(aG z).1=false:=aw U;dsimp only;rw[e];refine ac.bs (y:=.inr (z,true,())) ?_ (ac.af.2 rfl);refine ai rfl ?_;dsimp only[cond_false];rw[az (show z<9223372036854775808 from c)];refine ai rfl ?_;dsimp only[cond_true];rw[bf U U]
theorem xS (q:aI d) (s:d.length<=100000000):kJ (d,())=some (fy d,()):=by
 unfold kJ;refine ac.eq_iff.1 ?_;refine ac.aU (P:=λj=>∃a:Nat,j.1=(a:Int)/\a<=d.length/\(∀b,a<=b->(l:b<d.length)->d[b]=0)/\dp (d.take a)) ?_ ?_
 ·refine ac.loop (λh=>∃a:Nat,h.1=(a:Int)/\a<=d.length/\(∀b,a<=b->(l:b<d.length)->d[b]=0)) (λh=>h.1.toNat) ⟨d.length,rfl,a8 _,λb e f=>by omega⟩ ?_;rintro⟨_,_⟩ ⟨a,rfl,e,f⟩;rcases a with _|a
  ·refine ac.af.2 ⟨0,rfl,dQ _,f,λm c=>by simp at c⟩
  have aj:au (((a+1:Nat):Int)-1)=(a:Int):=(by rw[bf U U];omega);have n:decide (((a+1:Nat):Int)>0)=true:=az U;simp only[aj,n,beq_self_eq_true,cond_true,bM (show a<d.length from e),aM];by_cases i:d[a]=0
  ·rw[dM,az i];refine ac.af.2 ⟨⟨a,rfl,U,λb l p=>?_⟩,?_⟩
   ·rcases bp a b with k|k
    ·exact f b k p
    obtain rfl:b=a:=U;exact i
   show(a:Int).toNat<((a+1:Nat):Int).toNat;omega
  rw[dM,aw i];refine ac.af.2 ⟨a+1,rfl,e,f,λm c=>?_⟩;rw[hq,bo e] at c;have c:(d.take a++[d[a]]).getLast?=some m:=c;rw[List.getLast?_concat] at c;cases c;exact i
 rintro⟨_,_⟩ ⟨a,rfl,e,f,o⟩;dsimp only;refine ac.aU (P:=λj=>j=(d.take a,())) ?_ ?_
 ·refine ac.steps a (λg h=>h=((g:Int),d.take g,())) rfl ?_ ?_
  ·rintro g _ r rfl;simp only[az (U:(g:Int)<(a:Int)),cond_true,bM (U:g<d.length),aM];rw[dU (by simp;omega),bg U];refine ac.af.2 ?_;show _=(_,d.take (g+1),());rw[hq,bo U];rfl
  rintro _ rfl;simp only[aw (U:¬((a:Int)<(a:Int))),cond_false];exact ac.af.2 rfl
 rintro _ rfl;refine ac.af.2 ?_;show(d.take a,())=_;rw[Mg q e f o]
theorem xN (a:aI d) (e:d.length<=100000000):kn (i,d,())=some (aG (e6 (i,d,())),()):=by
 unfold kn;refine ai (xS a e) ?_;have b:=HE (neg:=i) (Fv d) (Mf d);have c:e6 (i,fy d,())=e6 (i,d,()):=(by unfold e6;simp only[Fw a]);rw[<-c,<-b];dsimp only;cases i
 ·simp
 simp only[beq_self_eq_true,cond_true,Bool.true_and];congr 3;rw[decide_eq_decide];simp only[aW];rw[<-yi];omega
theorem q6 (a:aI d) (c:d.length<=100000000) (e:ae d=b):kn (i,d,())=some (aG (if i then-b else b),()):=by rw[xN a c];unfold e6;simp only[e]
theorem q7 {l:cZ} (a:aI l) (c:dp l) (d:l.length<=1000000):kJ (l,())=some (l,()):=by have b:=dp.eq a c;rw[xS a U];show some (bL (ae l).toNat,())=_;rw[<-b]
theorem Lw {a:nx} (b:aI a.2.1) (c:a.2.1.length<=100000000):nZ (a,())=some (aG (e6 a),()):=by unfold nZ;exact ai (xN b c) rfl
theorem uZ (a:ax b.natAbs<=3000000):nZ (aG b,())=some (aG b,()):=by rw[Lw (kK b) (by have:=(fO a).2.2;omega),mK]
theorem Lv (a:ax b.natAbs<=3000000):wm (aG b,())=some (aG (-b),()):=by unfold wm;refine ai (xN (kK b) (by have:=(fO a).2.2;omega)) ?_;rw[B4];show some (aG (-e6 (aG b)),())=_;rw[mK]
theorem xJ (a:ax b.natAbs<=3000000):oY (aG b,())=some (aG b.natAbs,()):=by unfold oY;refine ai (xN (kK b) (by have:=(fO a).2.2;omega)) ?_;rw[Mu (kK b) (aG b).1];show some (aG ((e6 (aG b)).natAbs:Int),())=_;rw[mK]
theorem hP {z:Int} (a:ax z.natAbs<=3000000):iT (aG z,())=some (dH z,()):=by
 unfold iT;refine ai (uZ a) ?_;simp only[pe,bu,uj];unfold dH;split
 ·rfl
 show(bif decide (z<0) then _ else _)=_;rw[bu];split<;>rfl
theorem sS {z:Int} (d:ax z.natAbs<=3000000):oZ (aG z,())=some ((ax z.natAbs:Int),()):=by obtain⟨b,c,e⟩:=fO d;have a:=DZ b c U;rw[gd] at a;unfold tT at a;unfold oZ;refine ai (q7 b c U) ?_;dsimp only at a|-;simp only[Int.mul_comm 32];exact a
theorem LH {z:Int} (v:ax z.natAbs<=900000) (s:z≠0):o1 (aG z,())=some ((bq z.natAbs:Int),()):=by
 obtain⟨i,k,r⟩:=fO (z:=z) U;unfold o1;refine ai (q7 i k U) ?_;have u:=gd z;dsimp only;generalize(aG z).2.1=b at*;have o:z.natAbs=(ae b).toNat:=U;rw[o];refine ac.eq_iff.1 (ac.aU (P:=λg=>match g with|.inl _=>False|.inr p=>p=((bq (ae b).toNat:Int),())) ?_ ?_)
 ·refine ac.steps b.length (λa q=>q=((a:Int),())/\ae (b.take a)=0) ⟨rfl,rfl⟩ ?_ ?_
  ·rintro a _ e ⟨rfl,d⟩;have j:=i.get e;simp only[az (show(a:Int)<aq b by simp only[aW];omega),cond_true,bM e,aM,bY];by_cases c:b[a]=0
   ·simp only[az c,i6,cond_false];refine ac.af.2 ⟨by rw[bg U],?_⟩;rw[fX e,c,d];simp
   simp only[aw c,kx,cond_true];have l:=Mo (x:=0) d e i c;rw[l];obtain⟨h,m⟩:=ew j.1;rw[m] at j c|-;have t:bq h<32:=gO (s3 U) (df.2 U);refine ac.of_eq (ai (Mn (n:=h) U U) rfl) ?_;show(au (au (32*(a:Int))+(bq h:Int)),())=_;rw[bf (x:=32*(a:Int)) U U,bf U U];congr 1
  rintro _ ⟨rfl,d⟩;exfalso;rw[c9 (a8 _)] at d;omega
 rintro(g|g) f
 ·exact f.elim
 have f:g=_:=f;rw[f];exact ac.af.2 rfl
theorem K0 {n:Nat} (c:n<=1000000000):∃b a:Nat,n=32*b+a/\a<32/\gm IntKind.i64 (n:Int) 32=some (b:Int)/\gU (n:Int) 32=some (a:Int):=by
 refine⟨n/32,n %32,U,U,?_,?_⟩
 ·unfold gm;rw[if_pos aa,vq U,wrap64 U U];simp
 unfold gU;rw[if_pos aa,yg U];simp
theorem E6 {n:Nat} (C:aI d) (R:d.length<=10000000) (O:n<=100000000):ac (ub (d,(n:Int),())) (λk=>∃b,k=(b,())/\aI b/\ae b=ae d*2^n/\b.length=n/32+d.length+1):=by
 unfold ub;obtain⟨g,a,H,Q,F,G⟩:=K0 (n:=n) U;have m:=h6 a;have B:=sP (p:=a) U;have A:(2:Int)^a<=2147483648:=sQ U;dsimp only;refine ac.bs F (ac.bs (gE U) ?_);refine ac.aU (P:=λk=>∃c b,k=(c,b,())/\b.length=g+d.length/\aI b/\0<=c/\c<2^a/\ae b+aD (g+d.length)*c=aD g*(2^a*ae d)) ?_ ?_
 ·refine ac.steps d.length (λe J=>∃c b,J=(c,(e:Int),b,())/\b.length=g+e/\aI b/\0<=c/\c<2^a/\ae b+aD (g+e)*c=aD g*(2^a*ae (d.take e))) ⟨0,List.replicate g 0,rfl,ab,aI.kb _,U,m,by simp[ae,nu]⟩ ?_ ?_
  ·rintro e _ o ⟨c,b,rfl,ar,j,h,l,i⟩;have v:=C.get o;simp only[az (show(e:Int)<aq d by simp only[aW];omega),cond_true,bM o,aM,G];have E:d[e]*2^a<4294967296*2^a:=pL v.2 m;have D:d[e]*2^a<=4294967295*2^a:=kz U U;have t:0<=d[e]*2^a:=ls v.1 (dL m);obtain⟨f,u,K,L,M⟩:∃f,f=c+d[e]*2^a/\0<=f/\f<18446744073709551616/\f<4294967296*2^a:=⟨_,rfl,U,U,U⟩;have q:gn IntKind.u64 (aF d[e]) (a:Int)=some (d[e]*2^a):=by
    rw[bV (x:=d[e]) U U,lU U U,de];congr 1;omega
   have r:eA IntKind.u64 c (d[e]*2^a)=f:=(by rw[lh a h l t U U (Int.mul_emod_left _ _),u]);have s:f/4294967296<2^a:=oC aa (by rw[gW];omega);rw[q,aM,r,dU (by simp;omega),ln,nv];refine ac.af.2 ⟨f/4294967296,b++[f %4294967296],by rw[bg U],by simp[ar];omega,j.snoc U U,U,s,?_⟩;rw[ox,ar,(U:g+(e+1)=(g+e)+1),ga,fX o];have y:=g8 f 4294967296;rw[rm] at i|-;generalize f/4294967296=I at*;generalize f %4294967296=k at*;generalize(2:Int)^a=w at*;generalize d[e]=N at*;have z:k=c+N*w-4294967296*I:=U;clear y q r s u K L M E D t B A;subst z;grind
  rintro _ ⟨c,b,rfl,ar,j,h,l,i⟩;simp only[aw (show¬((d.length:Int)<aq d) by simp only[aW];omega),cond_false];rw[c9 (a8 _)] at i;exact ac.af.2 ⟨c,b,rfl,ar,j,h,l,i⟩
 rintro _ ⟨c,b,rfl,ar,j,h,l,i⟩;dsimp only;rw[jz h U,dU (by simp;omega)];refine ac.af.2 ⟨b++[c],rfl,j.snoc h U,?_,by simp;omega⟩;rw[ox,ar,i,oA,H,Int.pow_add];grind
theorem Lb (h:aI d) (i:aI f) (p:dp d) (q:dp f) (u:d.length<=10000000) (v:f.length<=10000000):wo (d,f,())=some (dy (ae d) (ae f),()):=by
 unfold wo;refine ac.eq_iff.1 ?_;simp only[bY,aW];by_cases t:d.length=f.length
 ·rw[az (U:(d.length:Int)=f.length)];simp only[i6,cond_false];refine ac.aU (P:=λl=>match l with|.inl _=>ae d=ae f|.inr n=>n=(dy (ae d) (ae f),())) ?_ ?_
  ·refine ac.steps d.length (λb o=>o=(((d.length:Nat):Int)-1-b,())/\ae (d.drop (d.length-b))=ae (f.drop (d.length-b))) ⟨?_,?_⟩ ?_ ?_
   ·rw[bf U U];simp
   ·rw[nF U,nF U]
   ·rintro b _ r ⟨rfl,c⟩;obtain⟨a,s⟩:∃a,d.length=a+1+b:=⟨d.length-1-b,U⟩;have aj:((d.length:Nat):Int)-1-(b:Int)=(a:Int):=U;have j:a<d.length:=U;have k:a<f.length:=U;rw[(U:d.length-b=a+1)] at c;simp only[aj,az (U:(a:Int)>=0),cond_true,bM j,bM k,aM];by_cases m:d[a]=f[a]
    ·simp only[az m,i6,cond_false];refine ac.af.2 ⟨?_,?_⟩
     ·rw[bf U U];congr 1;omega
     rw[(U:d.length-(b+1)=a),j9 j,j9 k,m,c]
    simp only[aw m,kx,cond_true];rw[bu];refine ac.ite (λg=>?_) λg=>?_
    ·refine ac.af.2 ?_;show((-1:Int),())=_;unfold dy;rw[if_pos (B5 h i j k c g)]
    refine ac.af.2 ?_;show((1:Int),())=_;have:=B5 i h k j c.symm U;unfold dy;rw[if_neg U,if_pos this]
   rintro _ ⟨rfl,c⟩;have aj:¬(((d.length:Nat):Int)-1-(d.length:Int)>=0):=U;simp only[aw aj,cond_false];refine ac.af.2 ?_;simpa using c
  rintro(l|l) e
  ·refine ac.af.2 ?_;have e:ae d=ae f:=e;unfold dy;rw[e];simp
  have e:l=_:=e;rw[e];exact ac.af.2 rfl
 rw[aw (U:¬(d.length:Int)=f.length)];simp only[kx,cond_true];rw[bu];unfold dy;refine ac.ite (λg=>ac.af.2 ?_) λg=>ac.af.2 ?_
 ·rw[if_pos (ow h i q U)]
 have:=ow i h p U;rw[if_neg U,if_pos this]
theorem UY (k:aI d) (x:g<32) (w:c+a<d.length) (v:b=ae (d.drop c)):b/2^g/aD a %4294967296=(d[c+a]+4294967296*d.getD (c+a+1) 0)/2^g %4294967296:=by
 have s:=h6 g;have t:=sP (p:=g) U;have u:b/aD a=(d[c+a]+4294967296*d.getD (c+a+1) 0)+4294967296*(4294967296*ae (d.drop (c+a+2))):=by
  have h:d.drop c=(d.drop c).take a++d.drop (c+a):=by
   conv=>lhs;rw[<-kE a (d.drop c)]
   rw[nE]
  have i:b=ae ((d.drop c).take a)+aD a*ae (d.drop (c+a)):=by
   rw[v]
   conv=>lhs;rw[h]
   rw[j8,dX,kC,fR U]
  have o:=dx ((k.drop c).take a);have j:=fb ((k.drop c).take a);rw[dX,kC,fR U] at j;have q:ae (d.drop (c+a))=d[c+a]+4294967296*ae (d.drop (c+a+1)):=j9 U;have r:ae (d.drop (c+a+1))=d.getD (c+a+1) 0+4294967296*ae (d.drop (c+a+2)):=by
   rcases bp (c+a+1) d.length with f|f
   ·rw[jo f];exact j9 f
   rw[mn f,nF f,nF U];rfl
  rw[i,tg _ _ (by have:=dV a;omega),ny o j,q,r];grind
 have h:b/2^g/aD a=b/aD a/2^g:=(by rw[rn (dL s),rn (dL (dV a)),gW]);rw[h,u];generalize d[c+a]+4294967296*d.getD (c+a+1) 0=l;have i:∀e:Int,l+4294967296*(4294967296*e)=l+2^g*(4294967296*(2^(32-g)*e)):=λe=>(by generalize(2:Int)^g=m at*;generalize(2:Int)^(32-g)=n at*;rw[show(4294967296:Int)*(4294967296*e)=(m*n)*(4294967296*e) by rw[<-t]];grind);rw[i,tg _ _ U,vp]
theorem U7 (f:aI d) (o:c<32) (j:a<d.length):(decide (ae d %(aD a*2^c)≠0))=(decide (ae (d.take a)≠0)||decide (d[a] %2^c≠0)):=by have l:=h6 c;have m:=sP (p:=c) U;have n:=dx (f.take a);have g:=fb (f.take a);rw[dX,fR U] at g;have e:=IT (x:=ae (d.take a)) (b:=aD a) (y:=ae (d.drop a)) (P:=2^c) (P':=0) (dV a) ⟨n,g⟩ l;rw[<-mL d a U] at e;have k:ae (d.drop a) %2^c=d[a] %2^c:=(by rw[j9 j,m,ja,vp]);rw[k] at e;by_cases h:ae (d.take a)=0<;>by_cases i:d[a] %2^c=0<;>simp[h,i,e]
theorem E7 {a:cZ} {n:Nat} (h:aI a) (bl:a.length<=10000000) (a4:n<=1000000000):ac (uc (a,(n:Int),())) (λi=>∃e,i=(e,decide (ae a %2^n≠0),())/\aI e/\ae e=ae a/2^n/\e.length<=a.length):=by
 unfold uc;obtain⟨b,d,ad,J,w,Y⟩:=K0 (n:=n) U;have E:=h6 d;have av:=sP (p:=d) U;have an:(2:Int)^d<=2147483648:=sQ U;have T:(2:Int)^n=aD b*2^d:=(by rw[oA,ad,Int.pow_add]);have K:=dx h;dsimp only;refine ac.aU (P:=λi=>i=(decide (ae (a.take b)≠0),())) ?_ ?_
 ·have M:∀c,min b a.length=c->decide (ae (a.take b)≠0)=decide (ae (a.take c)≠0):=λc l=>by
   rcases Nat.le_total b a.length with f|f
   ·rw[fR f] at l;rw[l]
   rw[Nat.min_eq_right f] at l;rw[<-l,c9 f,c9 (a8 _)]
  refine ac.steps (min b a.length) (λc s=>s=(decide (ae (a.take c)≠0),(c:Int),())) (by simp[ae]) ?_ ?_
  ·rintro c _ l rfl;have t:=h.get (n:=c) U;simp only[w,aM,az (U:(c:Int)<(b:Int)),beq_self_eq_true,cond_true,az (show(c:Int)<aq a by simp only[aW];omega),bM (U:c<a.length),bg (U:c<9223372036854775807),bY];have z:ae (a.take (c+1))=ae (a.take c)+aD c*a[c]:=fX U;have ap:=dx (h.take c);have C:=dV c;by_cases f:ae (a.take c)=0
   ·rw[aw (show¬(ae (a.take c)≠0) fromλo=>o f)];refine ac.af.2 ?_;show((!decide (a[c]=0)),_,())=_;congr 1;rw[z,f];by_cases k:a[c]=0
    ·simp[k]
    have:=nA C (U:0<a[c]);rw[aw k,az (U:(0:Int)+aD c*a[c]≠0)];rfl
   rw[az (show ae (a.take c)≠0 from f)];refine ac.af.2 ?_;show(true,_,())=_;congr 1;have:=ls (dL C) t.1;rw[z,az (U:ae (a.take c)+aD c*a[c]≠0)]
  rintro _ rfl;simp only[w,aM];by_cases f:min b a.length<b
  ·simp only[az (U:((min b a.length:Nat):Int)<(b:Int)),beq_self_eq_true,cond_true,aw (show¬(((min b a.length:Nat):Int)<aq a) by simp only[aW];omega),cond_false,aM];refine ac.af.2 ?_;rw[M _ rfl]
  simp only[aw (U:¬(((min b a.length:Nat):Int)<(b:Int))),show(false==true)=false from rfl,cond_false,aM];refine ac.af.2 ?_;rw[M _ rfl]
 rintro _ rfl;dsimp only;refine ac.bs Y (ac.bs w ?_);rw[T];rcases Nat.lt_or_ge b a.length with o|o
 ·obtain⟨g,v⟩:∃g,g=ae (a.drop b):=⟨_,rfl⟩;have F:0<=g:=(by rw[v];exact dx (h.drop b));have Z:ae a=ae (a.take b)+aD b*g:=(by rw[v];exact mL a b U);have W:=dx (h.take b);have I:=fb (h.take b);rw[dX,fR U] at I;have V:ae a/(aD b*2^d)=g/2^d:=by
   rw[<-rn (dL (dV b)),Z,tg _ _ (by have:=dV b;omega),ny W I,Int.zero_add]
  obtain⟨m,a3⟩:∃m,a.length=b+m:=⟨a.length-b,U⟩;have a0:g<aD m:=(by have:=fb (h.drop b);rw[kC,(U:a.length-b=m),<-v] at this;exact this);have S:=U7 h J o;refine ac.aU (P:=λi=>∃e,i=(decide (ae a %(aD b*2^d)≠0),e,())/\e.length=m/\aI e/\ae e=g/2^d) ?_ ?_
  ·refine ac.steps m (λc s=>∃e,s=(if c=0 then decide (ae (a.take b)≠0) else decide (ae a %(aD b*2^d)≠0),((b+c:Nat):Int),e,())/\e.length=c/\aI e/\ae e+aD c*(g/2^d/aD c)=g/2^d) ⟨[],rfl,rfl,aI.nil,by simp[ae,vj]⟩ ?_ ?_
   ·rintro c _ l ⟨e,rfl,ar,u,r⟩;have t:=h.get (n:=b+c) U;have L:=h.getD (b+c+1);obtain⟨j,q,N,am⟩:∃j,j=a[b+c]+4294967296*a.getD (b+c+1) 0/\0<=j/\j<18446744073709551616:=⟨_,rfl,U,U⟩;have G:g/2^d/aD c %4294967296=j/2^d %4294967296:=(by rw[q];exact UY h J U v);have X:0<=j/2^d:=Int.ediv_nonneg N (Int.le_of_lt E);have y:aS ((b+c:Nat):Int)=((b+c+1:Nat):Int):=bg U;dsimp only;rw[bc (az (show((b+c:Nat):Int)<aq a by simp only[aW];omega))];refine ac.aU (P:=λi=>i=(decide (ae a %(aD b*2^d)≠0),e++[j/2^d %4294967296],())) ?_ ?_
    ·refine ac.bs (bM U) ?_;refine ac.aU (P:=λi=>i=(j,e,())) ?_ ?_
     ·rw[y,bu];refine ac.ite (λf=>?_) λf=>?_
      ·have f:b+c+1<a.length:=(by simp only[aW] at f;omega);rw[bM f,aM,bV (x:=a[b+c+1]) (by have:=h.get f;omega) (by have:=h.get f;omega),lU aa aa];rw[jo f] at q L;have O:a[b+c+1]*2^(32:Int).toNat %18446744073709551616=4294967296*a[b+c+1]:=by
        rw[show(2:Int)^(32:Int).toNat=4294967296 from rfl];omega
       rw[aM,O,bV U U,lh 32 t.1 t.2 U U U U];refine ac.af.2 ?_;rw[<-q]
      have f:a.length<=b+c+1:=(by simp only[aW] at f;omega);rw[mn f] at q;rw[bV U U];refine ac.af.2 ?_;rw[q];simp
     rintro _ rfl;dsimp only;refine ac.aU (P:=λi=>i=(decide (ae a %(aD b*2^d)≠0),e,())) ?_ ?_
     ·refine ac.bs w ?_;by_cases H:c=0
      ·subst H;have A:(((b+0:Nat):Int)==(b:Int))=true:=ab;rw[A];simp only[beq_self_eq_true,cond_true];refine ac.bs (bM U) ?_;rw[LU U U,aM,de,Int.one_mul,pK U U,jz U U,Gu d (h.get (n:=b+0) U).1 (h.get (n:=b+0) U).2 U,bY,S];have Q:a[b+0]=a[b]:=rfl;rw[Q];by_cases k:a[b] %2^d=0
       ·rw[az k];refine ac.af.2 ?_;simp[k]
       rw[aw k];refine ac.af.2 ?_;simp[k]
      have A:(((b+c:Nat):Int)==(b:Int))=false:=(by rw[dM];exact aw U);rw[A];simp only[show(false==true)=false from rfl,cond_false];refine ac.af.2 ?_;rw[if_neg H]
     rintro _ rfl;dsimp only;rw[q8 U U,Option.bind_some,Int.toNat_natCast,dU (by simp;omega),nv];exact ac.af.2 rfl
    rintro _ rfl;dsimp only;refine ac.af.2 ⟨e++[j/2^d %4294967296],by rw[y,if_neg U];rfl,by simp[ar],u.snoc U U,?_⟩;rw[ox,ar,<-G,ga,Int.mul_comm 4294967296 (aD c),<-Int.ediv_ediv_of_nonneg (Int.le_of_lt (dV c))];have D:=Int.emod_add_mul_ediv (g/2^d/aD c) 4294967296;generalize g/2^d/aD c %4294967296=i at*;generalize g/2^d/aD c/4294967296=ce at*;rw[<-D] at r;clear G D q N am X t L y;grind
   rintro _ ⟨e,rfl,ar,u,r⟩;dsimp only;rw[a6 (aw (show¬(((b+m:Nat):Int)<aq a) by simp only[aW];omega)),if_neg U];refine ac.af.2 ⟨e,rfl,ar,u,?_⟩;have B:0<=g/2^d:=Int.ediv_nonneg F (Int.le_of_lt E);have R:g/2^d<=g:=Int.ediv_le_self _ F;rw[Int.ediv_eq_zero_of_lt B U] at r;simpa using r
  rintro _ ⟨e,rfl,ar,u,r⟩;exact ac.af.2 ⟨e,rfl,u,by rw[r,V],U⟩
 have B:=fb h;have R:=nl o;have z:aD b*1<=aD b*2^d:=hT U (dL (dV b));rw[ny K U,pK K U,c9 o];refine ac.aU (P:=λi=>i=(decide (ae a≠0),[],())) ?_ ?_
 ·refine ac.steps 0 (λc s=>s=(decide (ae a≠0),(b:Int),[],())) rfl (λc s l=>by omega) ?_;rintro _ rfl;dsimp only;rw[a6 (aw (show¬((b:Int)<aq a) by simp only[aW];omega))];exact ac.af.2 rfl
 rintro _ rfl;exact ac.af.2 ⟨[],rfl,aI.nil,rfl,ab⟩
theorem Y2 (s:aI d) (t:aI f) (F:d.length<=10000000) (G:f.length<=10000000):ac (zQ (d,f,())) (λh=>∃a,h=(a,())/\aI a/\ae a=ae d+ae f/\a.length<=d.length+f.length+1):=by
 unfold zQ;dsimp only;obtain⟨i,E⟩:∃i,i=max d.length f.length:=⟨_,rfl⟩;have u:(if aq f>aq d then aq f else aq d)=(i:Int):=(by simp only[aW];split<;>omega);rw[u];refine ac.aU (P:=λh=>∃c a,h=(c,a,())/\a.length=i/\aI a/\0<=c/\c<=1/\ae a+aD i*c=ae d+ae f) ?_ ?_
 ·refine ac.steps i (λb z=>∃c a,z=(c,(b:Int),a,())/\a.length=b/\aI a/\0<=c/\c<=1/\ae a+aD b*c=ae (d.take b)+ae (f.take b)) ⟨0,[],rfl,rfl,aI.nil,U,U,by simp[ae]⟩ ?_ ?_
  ·rintro b _ D ⟨c,a,rfl,j,k,l,o,m⟩;have v:=s.getD b;have w:=t.getD b;obtain⟨g,n,A,B,p⟩:∃g,g=c+d.getD b 0+f.getD b 0/\0<=g/\g<18446744073709551616/\g/4294967296<=1:=⟨_,rfl,U,U,U⟩;dsimp only;rw[bc (az (U:(b:Int)<(i:Int)))];refine ac.aU (P:=λh=>h=(g/4294967296,a++[g %4294967296],())) ?_ ?_
   ·refine ac.aU (P:=λh=>h=(c+d.getD b 0,a,())) ?_ ?_
    ·simp only[bu];refine ac.ite (λe=>?_) λe=>?_
     ·have e:b<d.length:=(by simp only[aW] at e;omega);rw[bM e];rw[jo e] at v|-;refine ac.af.2 ?_;rw[bV (x:=d[b]) U U,bV U U]
     have e:d.length<=b:=(by simp only[aW] at e;omega);rw[mn e,Int.add_zero];exact ac.af.2 rfl
    rintro _ rfl;refine ac.aU (P:=λh=>h=(g,a,())) ?_ ?_
    ·simp only[bu];refine ac.ite (λe=>?_) λe=>?_
     ·have e:b<f.length:=(by simp only[aW] at e;omega);rw[bM e];rw[jo e] at w n;refine ac.af.2 ?_;rw[bV (x:=f[b]) U U,bV U U,n]
     have e:f.length<=b:=(by simp only[aW] at e;omega);rw[mn e,Int.add_zero] at n;rw[n];exact ac.af.2 rfl
    rintro _ rfl;dsimp only;rw[dU (by simp;omega),nv,ln];exact ac.af.2 rfl
   rintro _ rfl;dsimp only;refine ac.af.2 ⟨g/4294967296,a++[g %4294967296],by rw[bg U],by simp[j],k.snoc U U,U,p,?_⟩;rw[ox,j,ga,vb,vb];have:=Int.emod_add_mul_ediv g 4294967296;generalize g/4294967296=y at*;generalize g %4294967296=h at*;generalize d.getD b 0=q at*;generalize f.getD b 0=C at*;have r:h=c+q+C-4294967296*y:=U;clear this n A B p;subst r;grind
  rintro _ ⟨c,a,rfl,j,k,l,o,m⟩;dsimp only;rw[a6 (aw (U:¬((i:Int)<(i:Int))))];rw[List.take_of_length_le U,List.take_of_length_le U] at m;exact ac.af.2 ⟨c,a,rfl,j,k,l,o,m⟩
 rintro _ ⟨c,a,rfl,j,k,l,o,m⟩;dsimp only;rw[dU (by simp;omega),jz l U];refine ac.af.2 ⟨a++[c],rfl,k.snoc l U,?_,by simp;omega⟩;rw[ox,j,m]
theorem LV (a:Int):dk .u64 a 63=some (a/9223372036854775808):=by have:dk .u64 a 63=some (a.fdiv 9223372036854775808):=rfl;rw[this,ye _ aa]
theorem LG (t:aI d) (u:aI f) (G:d.length<=10000000) (w:f.length<=d.length) (E:ae f<=ae d):ac (wq (d,f,())) (λh=>∃a,h=(a,())/\aI a/\ae a=ae d-ae f/\a.length=d.length):=by
 unfold wq;dsimp only;refine ac.aU (P:=λh=>∃a b,h=(a,())/\a.length=d.length/\aI a/\0<=b/\b<=1/\ae a-aD d.length*b=ae d-ae f) ?_ ?_
 ·refine ac.steps d.length (λe A=>∃b a,A=(b,(e:Int),a,())/\a.length=e/\aI a/\0<=b/\b<=1/\ae a-aD e*b=ae (d.take e)-ae (f.take e)) ⟨0,[],rfl,rfl,aI.nil,U,U,by simp[ae]⟩ ?_ ?_
  ·rintro e _ o ⟨b,a,rfl,i,j,m,n,l⟩;have F:=t.get o;have x:=u.getD e;obtain⟨c,k,p,q⟩:∃c,c=d[e]-b-f.getD e 0/\-4294967296<=c/\c<4294967296:=⟨_,rfl,U,U⟩;dsimp only;rw[bc (az (show(e:Int)<aq d by simp only[aW];omega))];refine ac.aU (P:=λh=>h=(-(c/4294967296),a++[c %4294967296],())) ?_ ?_
   ·refine ac.bs (bM o) ?_;refine ac.aU (P:=λh=>h=(c %18446744073709551616,a,())) ?_ ?_
    ·simp only[bu];refine ac.ite (λg=>?_) λg=>?_
     ·have g:e<f.length:=(by simp only[aW] at g;omega);rw[bM g];rw[jo g] at k x;refine ac.af.2 ?_;simp only[ka];rw[k];congr 1;omega
     have g:f.length<=e:=(by simp only[aW] at g;omega);rw[mn g] at k;refine ac.af.2 ?_;simp only[ka];rw[k];congr 1;omega
    rintro _ rfl;dsimp only;rw[dU (by simp;omega),nv,LV];refine ac.af.2 ?_;have ar:c %18446744073709551616/9223372036854775808=-(c/4294967296):=U;have z:c %18446744073709551616 %4294967296=c %4294967296:=U;rw[ar,z]
   rintro _ rfl;dsimp only;refine ac.af.2 ⟨-(c/4294967296),a++[c %4294967296],by rw[bg U],by simp[i],j.snoc U U,U,U,?_⟩;rw[ox,i,ga,fX o,vb];have:=Int.emod_add_mul_ediv c 4294967296;generalize c/4294967296=y at*;generalize c %4294967296=h at*;generalize f.getD e 0=C at*;generalize d[e]=B at*;have r:h=B-b-C-4294967296*y:=U;clear this k p q;subst r;grind
  rintro _ ⟨b,a,rfl,i,j,m,n,l⟩;dsimp only;rw[a6 (aw (show¬((d.length:Int)<aq d) by simp only[aW];omega))];refine ac.af.2 ⟨a,b,rfl,i,j,m,n,?_⟩;rw[l,List.take_of_length_le (Nat.le_refl _),List.take_of_length_le w]
 rintro _ ⟨a,b,rfl,i,j,m,n,l⟩;have s:=fb j;have D:=dV d.length;rw[i] at s;have v:b=0:=by
  rcases gH 0 b with g|g
  ·obtain rfl:b=1:=U;omega
  omega
 subst v;exact ac.af.2 ⟨a,rfl,j,by rw[<-l];simp,i⟩
theorem ZD {i:cZ} (L:aI f) (t:a<f.length) (M:aI d) (Z:a+d.length<c) (Y:c<=100000000) (I:i.length=c) (J:aI i) (P:g0 i (a+d.length)) {r:gZ->Prop} (K:∀g e,e.length=c->aI e->g0 e (a+d.length)->0<=g->g<4294967296->ae e+aD (a+d.length)*g=ae i+aD a*(f[a]*ae d)->r (g,e,())):ac (loop (σ:=nQ) (ρ:=gZ) (λ(l,j,o,_)=>
 bif decide (j<aq d) then
 (ay f (a:Int)).bind λE=>
 (ay d j).bind λC=>
 rd o (au ((a:Int)+j)) λD=>
 wr o (au ((a:Int)+j)) (bX (aF (aF (l+aF (aF E*aF C))+aF D))) λX=>
 (dk IntKind.u64 (aF (aF (l+aF (aF E*aF C))+aF D)) 32).bind λW=>
 some (.inl (W,aS j,X,())) else
 some (.inr (l,o,()))) (0,0,i,())) r:=by
 refine ac.steps d.length (λb T=>∃g e,T=(g,(b:Int),e,())/\e.length=c/\aI e/\g0 e (a+d.length)/\0<=g/\g<4294967296/\ae e+aD (a+b)*g=ae i+aD a*(f[a]*ae (d.take b))) ⟨0,i,rfl,I,J,P,U,U,by simp[ae]⟩ ?_ ?_
 ·rintro b _ m ⟨g,e,rfl,ar,k,p,y,z,q⟩;have v:=L.get t;have w:=M.get m;have O:=k.get (n:=a+b) U;have N:=xl v w;obtain⟨h,u,A,B⟩:∃h,h=g+f[a]*d[b]+e[a+b]/\0<=h/\h<18446744073709551616:=⟨_,rfl,U,U⟩;simp only[az (show(b:Int)<aq d by simp only[aW];omega),cond_true,bM m,bM t,aM];have aj:au ((a:Int)+(b:Int))=((a+b:Nat):Int):=(by rw[bf U U];simp);rw[aj,jv U];have s:aF (aF (g+aF (aF f[a]*aF d[b]))+aF e[a+b])=h:=by
   rw[bV (x:=f[a]) U U,bV (x:=d[b]) U U,bV (x:=e[a+b]) U U,bV (x:=f[a]*d[b]) U U,bV (x:=g+f[a]*d[b]) U U,<-u,bV A B]
  rw[s,nv,i5 U,ln];refine ac.af.2 ⟨h/4294967296,e.set (a+b) (h %4294967296),by rw[bg U],by simp[ar],k.set U U,p.Fe _ U,U,U,?_⟩;rw[kW U,(U:a+(b+1)=(a+b)+1),ga,fX m];have G:=g8 h 4294967296;rw[rm] at q|-;generalize h/4294967296=R at*;generalize h %4294967296=S at*;generalize e[a+b]=Q at*;generalize d[b]=V at*;generalize f[a]=F at*;have H:S=g+F*V+Q-4294967296*R:=U;clear G s u A B N v w O;subst H;grind
 rintro _ ⟨g,e,rfl,ar,k,p,y,z,q⟩;simp only[aw (show¬((d.length:Int)<aq d) by simp only[aW];omega),cond_false];refine ac.af.2 (K g e ar k p y z ?_);rw[q,c9 (a8 _)]
theorem Zn (s:aI f) (t:aI d) (v:f.length<=10000000) (w:d.length<=10000000):ac (zS (f,d,())) (λh=>∃a,h=(a,())/\aI a/\ae a=ae f*ae d/\a.length=f.length+d.length):=by
 unfold zS;dsimp only;have r:au (aq f+aq d)=((f.length+d.length:Nat):Int):=(by simp only[aW];rw[bf U U];simp);rw[r,gE U,Option.bind_some];refine ac.aU (P:=λh=>∃a,h=(a,())/\a.length=f.length+d.length/\aI a/\ae a=ae f*ae d) ?_ ?_
 ·refine ac.steps f.length (λb u=>∃a,u=((b:Int),a,())/\a.length=f.length+d.length/\aI a/\g0 a (b+d.length)/\ae a=ae (f.take b)*ae d) ⟨_,rfl,ab,aI.kb _,g0.kb _ _,by simp[ae,nu]⟩ ?_ ?_
  ·rintro b _ q ⟨a,rfl,ar,g,l,p⟩;dsimp only;rw[bc (az (show(b:Int)<aq f by simp only[aW];omega))];refine ac.aU (P:=λh=>∃e c,h=(e,c,())/\c.length=f.length+d.length/\aI c/\g0 c (b+d.length)/\0<=e/\e<4294967296/\ae c+aD (b+d.length)*e=ae a+aD b*(f[b]*ae d)) (ZD s q t U U ar g l λe c m n i j k o=>⟨e,c,rfl,m,n,i,j,k,o⟩) ?_;rintro _ ⟨e,c,rfl,m,n,i,j,k,o⟩;have aj:au ((b:Int)+aq d)=((b+d.length:Nat):Int):=(by simp only[aW];rw[bf U U];simp);dsimp only;rw[aj,jz j k,i5 U];refine ac.af.2 ⟨c.set (b+d.length) e,by rw[bg U],by simp[m],n.set j k,?_,?_⟩
   ·rw[(U:b+1+d.length=b+d.length+1)];exact i.set _
   rw[kW U,i _ (a8 _) U,fX q,Int.sub_zero,o,p];grind
  rintro _ ⟨a,rfl,ar,g,l,p⟩;dsimp only;rw[a6 (aw (show¬((f.length:Int)<aq f) by simp only[aW];omega))];refine ac.af.2 ⟨a,rfl,ar,g,?_⟩;rw[p,List.take_of_length_le (Nat.le_refl _)]
 rintro _ ⟨a,rfl,ar,g,l⟩;exact ac.af.2 ⟨a,rfl,g,l,ar⟩
section
section
variable {α B:Type}
theorem EX {d c f:List α} {k:Nat} (e:k<c.length) (g:b=((d.length+k:Nat):Int)) (a:α->Option B):rd (d++(c++f)) b a=a c[k]:=by subst g;refine Y6 U ?_ a;rw[de,l1 U,lB,lx e,bo e]
theorem aa7 {a c d:List α} {k:Nat} (g:k<c.length) (h:b=((a.length+k:Nat):Int)) (f:α) (e:List α->Option B):wr (a++(c++d)) b f e=e (a++(c.set k f++d)):=by subst h;rw[i5 (by simp;omega),xX g]
end
theorem aar {A w C v:cZ} {g:Int} (I:aI v) (J:aI w) (ce:w.length=v.length+1) (a0:A.length+w.length<=100000000) (Y:0<=g/\g<4294967296):ac (ws (A++(w++C),v,(A.length:Int),g,())) (λf=>(ae w<g*ae v/\f=(A++(w++C),false,()))\/(∃p,g*ae v<=ae w/\f=(A++(p++C),true,())/\p.length=w.length/\aI p/\ae p=ae w-g*ae v)):=by
 unfold ws;dsimp only;have R:aS (aq v)=((v.length+1:Nat):Int):=(by simp only[aW];exact bg U);rw[R,gE U,Option.bind_some];have a4:=dx I;have a3:=dx J;refine ac.aU (P:=λf=>∃c b,f=(c,A++(w++C),b,())/\b.length=v.length+1/\aI b/\0<=c/\c<=1/\ae b-aD (v.length+1)*c=ae w-g*ae v) ?_ ?_
 ·refine ac.steps (v.length+1) (λa z=>∃c h b,z=(c,h,(a:Int),A++(w++C),b,())/\b.length=v.length+1/\aI b/\g0 b a/\0<=h/\h<4294967296/\(a=v.length+1->h=0)/\0<=c/\c<=1/\ae b-aD a*(c+h)=ae (w.take a)-g*ae (v.take a)) ⟨0,0,List.replicate (v.length+1) 0,rfl,ab,aI.kb _,g0.kb _ _,U,U,λ_=>rfl,U,U,by simp[ae,nu]⟩ ?_ ?_
  ·rintro a _ Z ⟨c,h,b,rfl,m,j,o,B,q,D,E,F,r⟩;have t:=I.getD a;have am:=J.get (n:=a) U;have H:=xl Y t;obtain⟨e,l,u,y⟩:∃e,e=h+g*v.getD a 0/\0<=e/\e<18446744073709551616:=⟨_,rfl,U,U⟩;obtain⟨d,G,M,N⟩:∃d,d=w[a]-c-e %4294967296/\-4294967296<=d/\d<4294967296:=⟨_,rfl,U,U⟩;dsimp only;rw[bc (az (show(a:Int)<=aq v by simp only[aW];omega))];refine ac.aU (P:=λf=>f=(-(d/4294967296),e/4294967296,A++(w++C),b.set a (d %4294967296),())) ?_ ?_
   ·refine ac.aU (P:=λf=>f=(e,A++(w++C),b,())) ?_ ?_
    ·rw[bu];refine ac.ite (λi=>?_) λi=>?_
     ·have i:a<v.length:=(by simp only[aW] at i;omega);rw[bM i];rw[jo i] at t l H;refine ac.af.2 ?_;rw[bV (x:=v[a]) U U,bV (x:=g*v[a]) U U,<-l,bV u y]
     have i:v.length<=a:=(by simp only[aW] at i;omega);rw[mn i] at l;refine ac.af.2 ?_;rw[l];simp
    rintro _ rfl;dsimp only;have aj:au ((a:Int)+(A.length:Int))=((A.length+a:Nat):Int):=(by rw[bf U U];omega);have S:aF (aF (aF w[a]-c)-dr IntKind.u64 e 4294967295)=d %18446744073709551616:=(by rw[and_low32 u y,ka,ka,ka,G];omega);rw[EX (k:=a) U aj,ln,Option.bind_some,S,i5 U,LV,Option.bind_some,nv];refine ac.af.2 ?_;have ar:d %18446744073709551616/9223372036854775808=-(d/4294967296):=U;have ap:d %18446744073709551616 %4294967296=d %4294967296:=U;rw[ar,ap]
   rintro _ rfl;dsimp only;refine ac.af.2 ⟨-(d/4294967296),e/4294967296,b.set a (d %4294967296),by rw[bg U],by simp[m],j.set U U,o.set _,U,U,?_,U,U,?_⟩
   ·intro bs;rw[mn U] at l;omega
   rw[kW U,o a (a8 _) U,ga,fX (U:a<w.length),vb];have T:=g8 d 4294967296;have f2:=g8 e 4294967296;generalize d/4294967296=O at*;generalize d %4294967296=Q at*;generalize e/4294967296=an at*;generalize e %4294967296=K at*;generalize w[a]=av at*;generalize v.getD a 0=L at*;have V:K=h+g*L-4294967296*an:=U;have f4:Q=av-c-K-4294967296*O:=U;clear T f2 G l M N u y H t am;rw[f4,V];grind
  rintro _ ⟨c,h,b,rfl,m,j,o,B,q,D,E,F,r⟩;dsimp only;rw[a6 (aw (show¬(((v.length+1:Nat):Int)<=aq v) by simp only[aW];omega))];have X:=D rfl;subst X;rw[List.take_of_length_le U,List.take_of_length_le U,Int.add_zero] at r;exact ac.af.2 ⟨c,b,rfl,m,j,E,F,r⟩
 rintro _ ⟨c,b,rfl,m,j,o,B,q⟩;have ad:=fb j;have bl:=dx j;have l:=dV (v.length+1);rw[m] at ad;dsimp only;rw[bY];by_cases s:c=0
 ·rw[az s];subst s;rw[Int.mul_zero] at q;refine ac.aU (P:=λf=>f=(A++(b++C),())) ?_ ?_
  ·refine ac.steps (v.length+1) (λa z=>z=((a:Int),A++((b.take a++w.drop a)++C),b,())) rfl ?_ ?_
   ·rintro a _ Z rfl;have aj:au ((a:Int)+(A.length:Int))=((A.length+a:Nat):Int):=(by rw[bf U U];omega);dsimp only;rw[bc (az (show(a:Int)<=aq v by simp only[aW];omega)),jv U,aa7 (k:=a) (by simp;omega) aj,bg U];refine ac.af.2 ?_;show(_,A++(List.set (b.take a++w.drop a) a b[a]++C),b,())=(_,A++((b.take (a+1)++w.drop (a+1))++C),b,());congr 4;have W:b.take (a+1)=b.take a++[b[a]]:=(by rw[List.take_add_one,List.getElem?_eq_getElem U];rfl);rw[List.set_append_right _ _ (by simp;omega),W,List.length_take,Nat.min_eq_left U,Nat.sub_self,List.drop_eq_getElem_cons (U:a<w.length),List.set_cons_zero,List.append_assoc];rfl
   rintro _ rfl;dsimp only;rw[a6 (aw (show¬(((v.length+1:Nat):Int)<=aq v) by simp only[aW];omega))];refine ac.af.2 ?_;show(A++((b.take (v.length+1)++w.drop (v.length+1))++C),())=_;rw[List.take_of_length_le U,List.drop_eq_nil_of_le U,List.append_nil]
  rintro _ rfl;exact ac.af.2 (.inr ⟨b,U,rfl,U,j,U⟩)
 rw[aw s];obtain rfl:c=1:=U;refine ac.af.2 (.inl ⟨U,rfl⟩)
theorem Y9 {n:Nat} (J:aI d) (ad:ae d=b) (la:d.length=n+1) (hs:b<aD (n+1)) (hv:1<=d[n]) (d9:aI f) (d6:ae f=e) (d4:f.length=c) (i8:c=a+(n+1)) (hr:c<=10000000) (jp:1<=a) (d8:ae (f.drop a)<b) (u:cZ) (hw:u.length=n+1) {Z:h0->Prop} (d5:∀o j,o.length=a->aI o->j.length=c->aI j->ae j+b*ae o=e->ae j<b->Z (j,o,())):ac (loop (σ:=(Int×aQ×aQ×Unit)) (ρ:=h0) (λ(z,L,bl,_)=>
 bif decide (z>=0) then
 rd L (au (z+aq u)) λf8=>
 (gn IntKind.u64 (aF f8) 32).bind λf9=>
 rd L (au (au (z+aq u)-1)) λgc=>
 (ay d (au (aq u-1))).bind λge=>
 (gm IntKind.u64 (eA IntKind.u64 f9 (aF gc)) (aF ge)).bind λcs=>
 (loop (σ:=(Int×aQ×aQ×Unit)) (ρ:=(Int×aQ×aQ×Unit)) (λ(M,f4,ce,_)=>
 (ws (f4,d,z,M,())).bind λ(a4,f0,_)=>
  bif !f0 then
 some (.inl (aF (M-1),a4,ce,())) else
 some (.inr (M,a4,ce,()))) ((if 4294967295<cs then 4294967295 else cs),L,bl,())).bind λ(d1,f5,fz,_)=>
 wr fz z (bX d1) λgf=>
 some (.inl (au (z-1),f5,gf,())) else
 some (.inr (L,bl,()))) (((a:Int)-1),f,List.replicate a (0:Int),())) Z:=by
 have lb:ae d=ae (d.take n)+aD n*d[n]:=(by rw[<-fX U,c9 U]);have k0:=dx (J.take n);have el:=fb (J.take n);rw[dX,fR U] at el;have em:=J.get (n:=n) U;have I:0<b:=(by have:=nA (dV n) (U:0<d[n]);omega);refine ac.steps a (λs F=>∃o j,F=(((a:Nat):Int)-1-s,j,o,())/\o.length=a/\aI o/\(∀i,i<a-s->(d7:i<o.length)->o[i]=0)/\j.length=c/\aI j/\ae j+b*ae o=e/\ae (j.drop (a-s))<b) ⟨List.replicate a 0,f,ab,ab,aI.kb _,ab,d4,d9,by rw[nu,d6];omega,d8⟩ ?_ ?_
 ·rintro s _ i0 ⟨o,j,rfl,ar,W,X,Y,B,G,H⟩;obtain⟨i,d7⟩:∃i,a=i+1+s:=⟨a-1-s,U⟩;have aj:((a:Nat):Int)-1-(s:Int)=(i:Int):=U;rw[(U:a-s=i+1)] at H;obtain⟨r,N⟩:∃r,r=j.take i:=⟨_,rfl⟩;obtain⟨h,T⟩:∃h,h=(j.drop i).take (n+2):=⟨_,rfl⟩;obtain⟨p,Q⟩:∃p,p=j.drop (i+(n+2)):=⟨_,rfl⟩;have O:r.length=i:=(by rw[N,dX];omega);have V:h.length=n+2:=(by rw[T,dX,kC];omega);have S:j=r++(h++p):=by
   rw[N,T,Q,<-nE,kE,kE]
  have hc:p.length=c-(i+(n+2)):=(by rw[Q,kC,Y]);have ft:aI r:=(by rw[N];exact B.take i);have E:aI h:=(by rw[T];exact(B.drop i).take _);have a3:aI p:=(by rw[Q];exact B.drop _);have ib:ae (j.drop i)=ae h+aD (n+2)*ae p:=(by rw[S,oD U,oE U,fr,j8,V]);have ic:ae (j.drop i)=j[i]+4294967296*ae (j.drop (i+1)):=j9 U;have le:=B.get (n:=i) U;have d2:=dx a3;have hi:0<=aD (n+2)*ae p:=ls (dL (dV _)) d2;have i3:ae (j.drop i)<4294967296*b:=U;have eq:=dx E;have d3:ae p=0:=by
   rcases gH 0 (ae p) with q|q
   ·exfalso;have:=hT (U:1<=ae p) (dL (dV (n+2)));have gs:aD (n+2)=4294967296*aD (n+1):=ga (n+1);omega
   omega
  have R:0<=ae h/b:=Int.ediv_nonneg eq U;have an:ae h/b<4294967296:=Int.ediv_lt_of_lt_mul I U;have id:=Int.emod_add_mul_ediv (ae h) b;have kd:=Int.emod_lt_of_pos (ae h) I;have kg:=Int.emod_nonneg (ae h) (U:b≠0);have ap:=E.get (n:=n+1) U;have fn:=E.get (n:=n) U;have i1:au ((i:Int)+aq u)=((r.length+(n+1):Nat):Int):=(by simp only[aW];rw[bf U U];omega);have fp:au (au ((i:Int)+aq u)-1)=((r.length+n:Nat):Int):=(by rw[i1,bf U U];omega);have fs:au (aq u-1)=((n:Nat):Int):=(by simp only[aW];rw[bf U U];omega);obtain⟨f1,f2⟩:=BW (x:=h[n+1]) (y:=h[n]) ap fn;obtain⟨f3,lk⟩:=Bw (x:=4294967296*h[n+1]+h[n]) (y:=d[n]) ⟨U,U⟩ U;have is:ae h/b<=(4294967296*h[n+1]+h[n])/d[n]:=(by rw[Int.le_ediv_iff_mul_le U];have gi:ae h=ae (h.take n)+aD n*(4294967296*h[n+1]+h[n]):=(by have:=B6 (l:=h) (m:=n) V;rw[this];grind);have cv:=fb (E.take n);rw[List.length_take,Nat.min_eq_left U] at cv;have gl:aD n*(ae h/b*d[n])<=ae h:=(by have ds:ae h/b*(aD n*d[n])<=ae h/b*b:=Int.mul_le_mul_of_nonneg_left U R;have go:aD n*(ae h/b*d[n])=ae h/b*(aD n*d[n]):=(by grind);rw[Int.mul_comm (ae h/b) b] at ds;omega);have dl:aD n*(ae h/b*d[n])<aD n*(4294967296*h[n+1]+h[n]+1):=(by rw[Int.mul_add (aD n),Int.mul_one];omega);have:=Int.lt_of_mul_lt_mul_left dl (Int.le_of_lt (dV n));omega);dsimp only;rw[aj,bc (az (U:(i:Int)>=0))]
  conv=>arg 1;rw[S]
  rw[EX (k:=n+1) U i1];refine ac.bs (by rw[bV ap.1 U];exact f1) ?_;rw[EX (k:=n) U fp];refine ac.bs (by rw[fs];exact bM U) ?_;refine ac.bs (by rw[f2,bV em.1 U];exact f3) ?_;refine ac.aU (P:=λfT=>∃t,fT=(ae h/b,r++(t++p),o,())/\t.length=n+2/\aI t/\ae t=ae h %b) ?_ ?_
  ·have ii:0<=(4294967296*h[n+1]+h[n])/d[n]:=ky U U;refine ac.loop (λF=>∃q,F=(q,r++(h++p),o,())/\ae h/b<=q/\q<4294967296) (λF=>F.1.toNat) ⟨_,rfl,by split<;>omega,by split<;>omega⟩ ?_;rintro _ ⟨q,rfl,gt,d0⟩;have ci:=aar (A:=r) (w:=h) (C:=p) (v:=d) (g:=q) J E U U ⟨U,d0⟩;rw[O] at ci;refine ac.aU ci ?_;rintro _ (⟨D,rfl⟩|⟨t,D,rfl,av,a0,K⟩)
   ·have io:ae h/b<q:=by
     rw[ad] at D;exact oC I D
    refine ac.af.2 ⟨⟨q-1,by rw[bV U U],U,U⟩,?_⟩;show(aF (q-1)).toNat<q.toNat;rw[bV U U];omega
   rw[ad] at D K;have i2:q<=ae h/b:=(Int.le_ediv_iff_mul_le I).2 D;have am:q=ae h/b:=U;refine ac.af.2 ⟨t,by rw[am],U,a0,?_⟩;rw[K,am,gW];omega
  rintro _ ⟨t,rfl,f6,f7,co⟩;dsimp only;rw[jz R an,i5 U];refine ac.af.2 ⟨o.set i (ae h/b),r++(t++p),?_,by simp[ar],W.set R an,?_,by simp;omega,aI.append.2 ⟨ft,aI.append.2 ⟨f7,a3⟩⟩,?_,?_⟩
  ·rw[bf U U];congr 1;omega
  ·intro av a0 K;rw[ru U];exact X av U (by simpa using K)
  ·rw[kW U,X i U U,j8,j8,O,co];rw[S,j8,j8,O,V] at G;rw[f6];have ex:ae h=b*(ae h/b)+ae h %b:=U;exact Hp G ex
  rw[(U:a-(s+1)=i),oD U,oE U,fr,j8,d3,co];omega
 rintro _ ⟨o,j,rfl,ar,W,X,Y,B,G,H⟩;have aj:¬(((a:Nat):Int)-1-(a:Int)>=0):=U;simp only[aw aj,cond_false];rw[Nat.sub_self,lu] at H;exact ac.af.2 (d5 o j ar W Y B G H)
end
theorem VS {n:Nat} (f:aI d) (m:dp d) (u:d.length=n+1):∃c:Nat,c<=31/\r3 (d[n],())=some ((c:Int),())/\ae d*2^c<aD (n+1)/\2147483648*aD n<=ae d*2^c:=by
 have l:=f.get (n:=n) U;have q:d[n]≠0:=m _ (by rw[List.getLast?_eq_getElem?,bo U];congr 2;omega);have h:ae d=ae (d.take n)+aD n*d[n]:=(by rw[<-fX U,c9 U]);have r:=dx (f.take n);have j:=fb (f.take n);rw[dX,fR U] at j;generalize d[n]=v at*;obtain⟨a,rfl⟩:=ew l.1;have i:0<a:=U;have t:ax a<=32:=df.2 U;have s:=nV i;obtain⟨g,o⟩:=tF i;obtain⟨b,k⟩:∃b,ax a=b+1:=⟨ax a-1,U⟩;refine⟨32-ax a,U,?_,?_,?_⟩
 ·unfold r3;refine ai (DY (n:=a) U) ?_;show some (au (32-(ax a:Int)),())=_;rw[bf U U];congr 2;omega
 ·have aj:ae d<aD n*2^ax a:=by
   have:aD n*((a:Int)+1)<=aD n*2^ax a:=hT (by rw[<-iI];omega) (dL (dV _));have p:aD n*((a:Int)+1)=aD n*(a:Int)+aD n:=(by rw[Int.mul_add,Int.mul_one]);show ae d<_;rw[h];show ae (d.take n)+aD n*(a:Int)<_;omega
  have e:ae d*2^(32-ax a)<aD n*2^ax a*2^(32-ax a):=pL aj (h6 _);rw[ja,<-jb,(U:ax a+(32-ax a)=32)] at e;rw[ga];have:aD n*2^32=4294967296*aD n:=(by rw[gW];rfl);omega
 have aj:aD n*2^b<=ae d:=(by have:aD n*2^b<=aD n*(a:Int):=hT (by rw[<-iI];rw[k] at g;simp only[tr] at g;omega) (dL (dV _));rw[h];show _<=ae (d.take n)+aD n*(a:Int);omega);have e:aD n*2^b*2^(32-ax a)<=ae d*2^(32-ax a):=kz aj (dL (h6 _));rw[ja,<-jb,(U:b+(32-ax a)=31)] at e;have:aD n*2^31=2147483648*aD n:=(by rw[gW];rfl);omega
theorem aaq (b:aI d) (f:a<=d.length) (g:ae d<aD a):ae (d.take a)=ae d:=by
 have e:=mL d a f;have h:=dx (b.drop a);have i:=dx (b.take a);rcases gH 0 (ae (d.drop a)) with c|c
 ·exfalso;have:=hT (U:1<=ae (d.drop a)) (dL (dV a));omega
 rw[(U:ae (d.drop a)=0)] at e;omega
theorem Za (l:aI f) (m:aI d) (S:dp f) (u:dp d) (d6:f.length<=1000000) (d7:d.length<=1000000) (I:d≠[]):zR (f,d,())=some (bL (ae f/ae d).toNat,bL (ae f %ae d).toNat,()):=by
 unfold zR;refine ac.eq_iff.1 ?_;have G:=dx l;have ad:0<ae d:=(by have:=dx m;have:ae d≠0:=λW=>I (dp.zero m u W);omega);refine ac.bs (Lb l m S u U U) ?_;dsimp only;rw[bu];refine ac.ite (λw=>?_) λw=>?_
 ·have t:ae f<ae d:=G8.1 w;refine ac.af.2 ?_;rw[ny G t,pK G t];show(([]:cZ),f,())=(bL 0,bL (ae f).toNat,());rw[De,<-dp.eq l S]
 have d2:ae d<=ae f:=Int.not_lt.1 (mt G8.2 w);obtain⟨b,J⟩:∃b,d.length=b+1:=(by have:=yi.2 I;exact⟨d.length-1,U⟩);have aj:au (aq d-1)=((b:Nat):Int):=(by simp only[aW];rw[bf U U];omega);obtain⟨c,cv,dl,R,el⟩:=VS m u J;have d3:b+1<=f.length:=by
  rcases bp f.length (b+1) with j|j
  ·have:=ow l m u U;omega
  exact j
 have C:=h6 c;refine ac.bs (y:=d[b]) (by rw[aj];exact bM U) (ac.bs dl ?_);refine ac.aU (E6 l U (n:=c) U) ?_;rintro _ ⟨v,rfl,O,L,K⟩;refine ac.aU (E6 m U (n:=c) U) ?_;rintro _ ⟨T,rfl,Q,N,a4⟩;rw[(U:c/32=0),Nat.zero_add] at K a4;have Y:aq d=((b+1:Nat):Int):=(by simp only[aW];omega);dsimp only;refine ac.bs (y:=(0,b+1)) ?_ ?_
 ·rw[Y,aM,uN,aM,w8 ⟨dQ _,U⟩,aM,KR U];rfl
 obtain⟨h,M⟩:∃h,h=(T.take (b+1)).drop 0:=⟨_,rfl⟩;have D:h=T.take (b+1):=(by rw[M,lu]);have be:aI h:=(by rw[D];exact Q.take _);have av:ae h=ae d*2^c:=(by rw[D,aaq Q U (by rw[N];exact R),N]);have bl:h.length=b+1:=(by rw[D,dX];omega);have a3:1<=h[b]:=by
  have p:ae h=ae (h.take b)+aD b*h[b]:=(by rw[<-fX U,c9 U]);have k:=fb (be.take b);rw[dX,fR U] at k;have d4:=dV b;rcases gH h[b] 1 with j|j
  ·exfalso;have:h[b]=0:=(by have:=be.get (n:=b) U;omega);rw[this] at p;omega
  exact j
 dsimp only;rw[<-M];refine ac.bs (y:=(h,v,())) ?_ ?_
 ·rw[a6];rw[dM];exact aw (by simp only[aW];omega)
 obtain⟨g,a0⟩:∃g,f.length+1=g+(b+1):=⟨f.length+1-(b+1),U⟩;have E:au (aq f-aq d)=(g:Int)-1:=(by simp only[aW];rw[bf U U];omega);have X:aS (au (aq f-aq d))=((g:Nat):Int):=(by rw[E];unfold aS;rw[wrap64 U U];omega);dsimp only;refine ac.bs (y:=g) (by rw[X];exact gE U) ?_;have t:ae (v.drop g)<ae d*2^c:=(by have x:=mL v g U;have F:=dx (O.take g);rw[L] at x;have p:ae f*2^c<aD f.length*2^c:=Int.mul_lt_mul_of_pos_right (fb l) C;have z:aD f.length=aD g*aD b:=(by rw[<-rm];congr 1;omega);have k:aD g*ae (v.drop g)<aD g*(aD b*2^c):=(by rw[<-Int.mul_assoc,<-z];omega);have s:=Int.lt_of_mul_lt_mul_left k (Int.le_of_lt (dV g));have d1:aD b*2^c<=aD b*2147483648:=Int.mul_le_mul_of_nonneg_left (sQ cv) (Int.le_of_lt (dV _));omega);rw[E];refine ac.aU (P:=λV=>∃e i,V=(i,e,())/\e.length=g/\aI e/\i.length=f.length+1/\aI i/\ae i+ae d*2^c*ae e=ae f*2^c/\ae i<ae d*2^c) (Y9 be av bl R a3 O L K a0 U U t d J λe i x F p z k s=>⟨e,i,rfl,x,F,p,z,k,s⟩) ?_;rintro _ ⟨e,i,rfl,ar,cs,em,o,k,s⟩;have d5:=dx o;have H:ae i=2^c*(ae f-ae d*ae e):=(by have ds:ae d*2^c*ae e=2^c*(ae d*ae e):=(by grind);have d0:2^c*(ae f-ae d*ae e)=2^c*ae f-2^c*(ae d*ae e):=Int.mul_sub ..;rw[Int.mul_comm (ae f)] at k;omega);have am:0<=ae f-ae d*ae e:=by
  rcases gH (ae f-ae d*ae e) 0 with j|j
  ·have:=Int.mul_neg_of_pos_of_neg C j;omega
  exact j
 have an:ae f-ae d*ae e<ae d:=(by have:2^c*(ae f-ae d*ae e)<2^c*ae d:=(by rw[<-H,Int.mul_comm (2^c)];exact s);exact Int.lt_of_mul_lt_mul_left this (Int.le_of_lt C));have ap:ae i/2^c=ae f-ae d*ae e:=(by rw[H];exact Int.mul_ediv_cancel_left _ U);obtain⟨Z,f2⟩:=Bx (A:=ae f) (B:=ae d) (q:=ae e) (r:=ae f-ae d*ae e) ad U am an;dsimp only;refine ac.bs (xS o U) ?_;dsimp only;refine ac.aU (E7 (a:=fy i) (n:=c) (Fv i) (by have:=Me o;omega) U) ?_;rintro _ ⟨ce,rfl,ci,co,d8⟩;have d9:=Me o;dsimp only;refine ac.bs (xS cs U) (ac.bs (xS ci U) (ac.af.2 ?_));show(fy e,fy ce,())=_;rw[fy,fy,co,Fw o,ap,Z,f2]
theorem uW {x y:Int} (t:ax x.natAbs<=3000000) (u:ax y.natAbs<=3000000):m0 (aG x,aG y,())=some (aG (x+y),()):=by
 obtain⟨c,l,z⟩:=fO t;obtain⟨d,m,A⟩:=fO u;unfold m0;dsimp only;refine ac.eq_iff.1 ?_;refine ac.bs (q7 c l U) (ac.bs (q7 d m U) ?_);dsimp only;have q:=gd x;have r:=gd y;have v:(aG x).1=decide (x<0):=rfl;have w:(aG y).1=decide (y<0):=rfl;rw[v,w];by_cases k:(decide (x<0)==decide (y<0))=true
 ·rw[bc k];refine ac.aU (Y2 c d U U) ?_;rintro _ ⟨h,rfl,i,j,s⟩;refine ac.bs (q6 i (by show h.length<=_;omega) j) (ac.af.2 ?_);dsimp only;congr 2;have:decide (x<0)=decide (y<0):=(by simpa using k);have e:x<0↔y<0:=(by simpa using this);rw[q,r];by_cases a:x<0
  ·rw[if_pos (az a)];have:=e.1 a;omega
  rw[if_neg (by simpa using a)];have:=mt e.2 a;omega
 rw[a6 (by simpa using k)];have e:¬(x<0↔y<0):=(by simpa using k);refine ac.bs (Lb c d l m U U) ?_;dsimp only;rw[bu];refine ac.ite (λn=>?_) λn=>?_
 ·have p:=qb.1 n;have o:(aG y).2.1.length<=(aG x).2.1.length:=by
   rcases bp (aG x).2.1.length (aG y).2.1.length with g|g
   ·have:=ow c d m g;omega
   exact g
  refine ac.aU (LG c d U o p) ?_;rintro _ ⟨h,rfl,i,j,s⟩;refine ac.bs (q6 i (by show h.length<=_;omega) j) (ac.af.2 ?_);dsimp only;congr 2;rw[q,r] at*;by_cases a:x<0
  ·rw[if_pos (az a)];have:¬y<0:=λb=>e ⟨λ_=>b,λ_=>a⟩;omega
  rw[if_neg (by simpa using a)];have:y<0:=Decidable.byContradiction λb=>e ⟨λf=>absurd f a,λf=>absurd f b⟩;omega
 have p:ae (aG x).2.1<ae (aG y).2.1:=Int.not_le.1 (mt qb.2 n);have o:(aG x).2.1.length<=(aG y).2.1.length:=by
  rcases bp (aG y).2.1.length (aG x).2.1.length with g|g
  ·have:=ow d c l g;omega
  exact g
 refine ac.aU (LG d c U o (Int.le_of_lt p)) ?_;rintro _ ⟨h,rfl,i,j,s⟩;refine ac.bs (q6 i (by show h.length<=_;omega) j) (ac.af.2 ?_);dsimp only;congr 2;rw[q,r] at*;by_cases a:x<0
 ·have b:¬y<0:=λb=>e ⟨λ_=>b,λ_=>a⟩;rw[if_neg (by simpa using b)];omega
 have b:y<0:=Decidable.byContradiction λb=>e ⟨λf=>absurd f a,λf=>absurd f b⟩;rw[if_pos (az b)];omega
theorem LF (c:ax b.natAbs<=3000000) (a:ax e.natAbs<=3000000):ua (aG b,aG e,())=some (aG (b-e),()):=by unfold ua;refine ai (Lv a) ?_;dsimp only;exact ai (uW c (by rw[Int.natAbs_neg];exact a)) (by rw[<-Int.sub_eq_add_neg])
theorem Ls {x y:Int} (h:ax x.natAbs<=3000000) (i:ax y.natAbs<=3000000):wl (aG x,aG y,())=some (aG (x*y),()):=by
 obtain⟨d,f,m⟩:=fO h;obtain⟨e,g,n⟩:=fO i;unfold wl;dsimp only;refine ac.eq_iff.1 ?_;refine ac.bs (q7 d f U) (ac.bs (q7 e g U) ?_);dsimp only;refine ac.aU (Zn d e U U) ?_;rintro _ ⟨j,rfl,k,l,o⟩;refine ac.bs (q6 k (by show j.length<=_;omega) l) (ac.af.2 ?_);dsimp only;rw[gd,gd];congr 2;show(if(!(decide (x<0)==decide (y<0)))=true then _ else _)=_;rcases Int.lt_or_le x 0 with b|b<;>rcases Int.lt_or_le y 0 with c|c
 ·rw[az b,az c];have aj:(x.natAbs:Int)=-x:=U;have a:(y.natAbs:Int)=-y:=U;rw[aj,a];simp<;>grind
 ·rw[az b,aw (U:¬y<0)];have aj:(x.natAbs:Int)=-x:=U;have a:(y.natAbs:Int)=y:=U;rw[aj,a];simp<;>grind
 ·rw[az c,aw (U:¬x<0)];have aj:(x.natAbs:Int)=x:=U;have a:(y.natAbs:Int)=-y:=U;rw[aj,a];simp<;>grind
 rw[aw (U:¬y<0),aw (U:¬x<0)];have aj:(x.natAbs:Int)=x:=U;have a:(y.natAbs:Int)=y:=U;rw[aj,a];simp
theorem BG {n:Int} (c:-9223372036854775808<=n) (d:n<=9223372036854775807):o0 (n,())=some (aG n,()):=by
 unfold o0;dsimp only;obtain⟨a,e,f,g⟩:∃a:Int,a=n.natAbs/\0<=a/\a<=9223372036854775808:=⟨_,rfl,U,U⟩;refine ai (y:=(a,(false,([],())),())) ?_ ?_
 ·rw[bu];split
  ·rename_i b;have aj:aS n=n+1:=(by unfold aS;exact wrap64 U U);rw[aj,bf U U,bV (x:=0-(n+1)) U U,bV U U];congr 2;omega
  rename_i b;rw[bV U U];congr 2;omega
 dsimp only;rw[ln,Option.bind_some,nv a,jz (x:=a/4294967296) U U];refine ai (xN (aI.cons.2 ⟨⟨U,U⟩,aI.cons.2 ⟨⟨U,U⟩,aI.nil⟩⟩) ab) ?_;dsimp only;congr 2;congr 1;unfold e6;simp only[ae];by_cases b:n<0
 ·simp[b];omega
 simp[b];omega
theorem xQ {z:Int} {n:Nat} (b:ax z.natAbs<=3000000) (i:n<=10000000):jR (aG z,(n:Int),())=some (aG (z*2^n),()):=by
 obtain⟨d,g,h⟩:=fO b;unfold jR;dsimp only;refine ac.eq_iff.1 ?_;refine ac.bs (uZ b) ?_;dsimp only;rw[bc (az (U:(n:Int)>=0))];refine ac.aU (E6 d U (n:=n) U) ?_;rintro _ ⟨e,rfl,f,c,j⟩;rw[gd] at c;refine ac.bs (q6 f (by show e.length<=_;omega) c) (ac.af.2 ?_);dsimp only;congr 2;show(if decide (z<0)=true then _ else _)=_;by_cases a:z<0
 ·rw[if_pos (az a),<-Int.neg_mul];congr 1;omega
 rw[if_neg (by simpa using a)];congr 1;omega
theorem LD {z:Int} {n:Nat} (i:ax z.natAbs<=2900000) (q:n<=10000000) (r:0<n):jR (aG z,-(n:Int),())=some (aG (z/2^n),()):=by
 obtain⟨e,l,o⟩:=fO (z:=z) U;have h:=h6 n;unfold jR;dsimp only;refine ac.eq_iff.1 ?_;refine ac.bs (uZ U) ?_;dsimp only;have aj:au (0- -(n:Int))=(n:Int):=(by rw[bf U U];omega);rw[a6 (aw (U:¬(-(n:Int)>=0))),aj];refine ac.aU (E7 e U (n:=n) U) ?_;rintro _ ⟨u,rfl,j,d,v⟩;rw[gd] at d|-;dsimp only;refine ac.bs (q6 j U d) ?_;dsimp only;have k:(aG z).1=decide (z<0):=rfl;rw[k];have s:0<=(z.natAbs:Int)/2^n:=Int.ediv_nonneg U U;have t:(z.natAbs:Int)/2^n<=z.natAbs:=Int.ediv_le_self _ U;have a:=Jq (m:=z.natAbs) h U;refine ac.bs (y:=((false,([],())),aG (z/2^n),())) ?_ (ac.af.2 rfl);by_cases c:z<0
 ·rw[az c];rw[(U:-(z.natAbs:Int)=z)] at a;by_cases b:(z.natAbs:Int) %2^n=0
  ·rw[aw (show¬((z.natAbs:Int) %2^n≠0) fromλf=>f b)];refine ai rfl ?_;dsimp only[cond_false];rw[if_pos b] at a;rw[if_pos rfl,a]
  rw[az (show(z.natAbs:Int) %2^n≠0 from b)];refine ai rfl ?_;dsimp only[cond_true];rw[if_neg b] at a;refine ai (BG aa aa) ?_;dsimp only;have g:ax (-((z.natAbs:Int)/2^n)).natAbs<=3000000:=(by rw[df];have:=df.1 i;have p:=KJ 2900000 3000000 aa;omega);rw[if_pos rfl];refine ai (LF g aa) ?_;rw[a];dsimp only;congr 4;omega
 rw[aw c];refine ai rfl ?_;dsimp only[cond_false];rw[if_neg ab,(U:(z.natAbs:Int)=z)]
theorem EW {x y:Int} (b:ax x.natAbs<=2900000) (c:ax y.natAbs<=2900000):tZ (aG x,aG y,())=some (dy x y,()):=by
 unfold tZ;refine ai (LF U U) ?_;have a:ax (x-y).natAbs<=3000000:=(by have d:=GX 2900000 b c;have e:=hJ (U:(x-y).natAbs<=x.natAbs+y.natAbs);omega);refine ai (hP a) ?_;dsimp only;congr 2;unfold dH dy;split
 ·rw[if_neg U,if_neg U]
 split
 ·rw[if_pos U]
 rw[if_neg U,if_pos U]
theorem yG (b:ax c<=a) (d:ax g<=a):ax (c+g)<=a+1:=by rw[df,jg];have:=df.1 b;have:=df.1 d;omega
theorem Le {x y:Int} (o:ax x.natAbs<=3000000) (j:ax y.natAbs<=3000000) (F:0<=x) (c:y≠0):wj (aG x,aG y,())=some (aG (x/y),aG (x %y),()):=by
 obtain⟨m,p,q⟩:=fO o;obtain⟨n,r,s⟩:=fO j;have w:(aG y).2.1≠[]:=λt=>c (uj.1 t);unfold wj;refine ai (uZ o) (ai (uZ j) ?_);dsimp only;refine ai (Za m n p r U U w) ?_;rw[gd,gd];have A:(aG x).1=false:=aw U;have C:(aG y).1=decide (y<0):=rfl;rw[A,C];have f:0<=(x.natAbs:Int)/(y.natAbs:Int):=Int.ediv_nonneg U U;have g:(x.natAbs:Int)/(y.natAbs:Int)<=x.natAbs:=Int.ediv_le_self _ U;have h:0<=(x.natAbs:Int) %(y.natAbs:Int):=Int.emod_nonneg _ U;have i:(x.natAbs:Int) %(y.natAbs:Int)<(y.natAbs:Int):=Int.emod_lt_of_pos _ U;have d:∀a:Int,a<=x.natAbs->(bL a.toNat).length<=100000:=λa k=>x4 (l:=(aG x).2.1) m q (by rw[gd];exact k);have e:∀a:Int,a<=y.natAbs->(bL a.toNat).length<=100000:=λa k=>x4 (l:=(aG y).2.1) n s (by rw[gd];exact k);dsimp only;refine ai (q6 (iA _) (by have:=d _ g;omega) (sh f)) (ai (q6 (iA _) (by have:=e _ (Int.le_of_lt i);omega) (sh h)) ?_);dsimp only;rw[if_neg (ab:¬(false=true))];have aj:(x.natAbs:Int)=x:=U;rw[aj] at*;have u:x %(y.natAbs:Int)=x %y:=by
  rcases gH y 0 with b|b
  ·rw[(U:(y.natAbs:Int)=-y),Int.emod_neg]
  rw[(U:(y.natAbs:Int)=y)]
 rw[u] at*;have D:0<=x %y:=lY _ c;have E:x %y<y.natAbs:=Int.emod_lt x c;have z:ax (x %y).natAbs<=3000000:=(by clear f g h i d e;generalize x %y=B at*;exact da (hJ U) j);have v:(if(!(false==decide (y<0)))=true then-(x/(y.natAbs:Int)) else x/(y.natAbs:Int))=x/y:=by
  rcases gH y 0 with b|b
  ·rw[az b,(U:(y.natAbs:Int)=-y),Int.ediv_neg];simp
  rw[aw (U:¬y<0),(U:(y.natAbs:Int)=y)];simp
 rw[v];refine ai (y:=((false,([],())),(false,([],())),aG (x/y),aG (x %y),())) ?_ rfl;refine ai (hP z) ?_;dsimp only;rw[a6 (aw ?_)];clear f g h i d e;generalize x %y=B at*;unfold dH;split;omega;split<;>omega
theorem ZE {x:Int} (e:ax x.natAbs<=900000) (k:0<=x):zP (aG x,())=some (aG (bC x.toNat),()):=by
 unfold zP;refine ac.eq_iff.1 ?_;refine ac.bs (hP U) ?_;dsimp only;rw[dM,bu];refine ac.ite (λc=>?_) λc=>?_
 ·have:x=0:=by
   unfold dH at c;split at c
   ·assumption
   split at c<;>omega
  subst this;exact ac.af.2 rfl
 have E:0<x:=by
  unfold dH at c;split at c
  ·exact absurd rfl c
  omega
 obtain⟨a,rfl⟩:=ew k;have A:0<a:=U;have l:ax a<=900000:=e;obtain⟨h,q⟩:=pd a;have C:0<bC a:=by
  rcases h9 (bC a) with b|b
  ·rw[b] at q;omega
  exact b
 refine ac.bs (BG aa aa) (ac.bs (sS U) ?_);have aj:gm IntKind.i64 (aS (ax a:Int)) 2=some (((ax a+1)/2:Nat):Int):=(by unfold gm;rw[bg U,if_pos aa,Int.tdiv_eq_ediv_of_nonneg U,wrap64 U U];simp);dsimp only;refine ac.bs aj (ac.bs (xQ (z:=1) aa U) ?_);have i:(1:Int)*2^((ax a+1)/2)=((2^((ax a+1)/2):Nat):Int):=(by rw[iI,Int.one_mul]);rw[i];refine ac.aU (P:=λp=>p=(aG (bC a:Int),())) ?_ (by rintro _ rfl;exact ac.af.2 rfl);refine ac.loop (λg=>∃x:Nat,g=((false,([],())),aG (x:Int),())/\bC a<=x/\ax x<=1000000) (λg=>(ae g.2.1.2.1).toNat) ⟨_,rfl,?_,?_⟩ ?_
 ·refine BO h ?_;have t:=df.1 (a8 (ax a));have u:2^ax a<=2^((ax a+1)/2)*2^((ax a+1)/2):=by
   rw[<-gX];exact nL aa U
  have v:=ia (Nat.le_add_right (2^((ax a+1)/2)) 1) (Nat.le_add_right (2^((ax a+1)/2)) 1);omega
 ·rw[df];exact xF _ 1000000 U
 rintro _ ⟨x,rfl,F,r⟩;have e:0<x:=U;have d:∀f:Nat,(f:Int).natAbs=f:=λf=>U;refine ac.bs (Le (x:=(a:Int)) (y:=(x:Int)) (by rw[d];omega) (by rw[d];omega) U U) ?_;rw[<-Int.natCast_ediv];dsimp only;have B:ax (a/x)<=900000:=Nat.le_trans (hJ (Nat.div_le_self _ _)) l;refine ac.bs (uW (x:=(x:Int)) (y:=((a/x:Nat):Int)) (by rw[d];omega) (by rw[d];omega)) ?_;rw[<-Int.natCast_add];dsimp only;have D:ax (x+a/x)<=1000001:=yG r U;refine ac.bs (LD (z:=((x+a/x:Nat):Int)) (n:=1) (by rw[d];omega) aa aa) ?_;have j:((x+a/x:Nat):Int)/2^1=(((x+a/x)/2:Nat):Int):=(by rw[show(2:Int)^1=((2:Nat):Int) from rfl,<-Int.natCast_ediv]);rw[j];dsimp only;have o:ax ((x+a/x)/2)<=1000000:=(by have:=oR (x+a/x) 1;rw[Nat.pow_one] at this;omega);refine ac.bs (EW (x:=(((x+a/x)/2:Nat):Int)) (y:=(x:Int)) (by rw[d];omega) (by rw[d];omega)) ?_;dsimp only;rw[bu];refine ac.ite (λb=>?_) λb=>?_
 ·refine ac.af.2 ?_;have m:x<=(x+a/x)/2:=(by have:=qb.1 b;omega);have:=Jt e m;rw[AU this (by
   have w:=ia (U:bC a+1<=x+1) (U:bC a+1<=x+1);omega)]
 refine ac.af.2 ⟨⟨(x+a/x)/2,rfl,Js e h,o⟩,?_⟩;show(ae (aG (((x+a/x)/2:Nat):Int)).2.1).toNat<(ae (aG (x:Int)).2.1).toNat;rw[gd,gd];have:=mt qb.2 b;generalize(x+a/x)/2=s at*;omega
theorem Lq {z:Int} {n:Nat} (c:ax z.natAbs<=3000000) (e:n<=10000000):wk (aG z,(n:Int),())=some (decide ((z.natAbs:Int) %2^n≠0),()):=by obtain⟨a,b,d⟩:=fO c;unfold wk;dsimp only;refine ac.eq_iff.1 ?_;refine ac.bs (q7 a b U) ?_;dsimp only;refine ac.aU (E7 a U (n:=n) U) ?_;rintro _ ⟨f,rfl,g,h,i⟩;rw[gd];exact ac.af.2 rfl
theorem Zl {z:Int} (p:0<=z) (d:z<9223372036854775808):zO (aG z,())=some (z,true,()):=by
 have f:ax z.natAbs<=64:=df.2 U;obtain⟨b,n,o⟩:=fO (z:=z) U;have q:(aG z).2.1.length<=2:=m2 U;unfold zO;dsimp only;refine ac.eq_iff.1 ?_;refine ac.bs (uZ U) ?_;dsimp only;rw[a6 (aw (show¬(aq (aG z).2.1>2) by simp only[aW];omega))];refine ac.aU (P:=λl=>l=(z,aG z,())) ?_ ?_
 ·have k:=gd z;refine ac.steps (aG z).2.1.length (λa m=>m=(ae ((aG z).2.1.take a),(a:Int),aG z,())) rfl ?_ ?_
  ·rintro a _ c rfl;have h:=b.get c;dsimp only;rw[bc (az (show(a:Int)<aq (aG z).2.1 by simp only[aW];omega)),bM c,Option.bind_some];have d:=dx (b.take a);have e:=fb (b.take a);rw[List.length_take,Nat.min_eq_left U,oA] at e;have aj:au (32*(a:Int))=((32*a:Nat):Int):=(by rw[bf U U];simp);have f:(2:Int)^(32*a)<=4294967296:=by
    rcases(U:a=0\/a=1) with rfl|rfl<;>decide
   have j:=h6 (32*a);have r:(aG z).2.1[a]*2^(32*a)<4294967296*4294967296:=(by have:=hT f h.1;omega);have g:0<=(aG z).2.1[a]*2^(32*a):=ls h.1 (dL j);rw[aj,bV (x:=(aG z).2.1[a]) U U,lU U U,aM,de,pK g U,lh (32*a) d e g U U (Int.mul_emod_left _ _),bg U];refine ac.af.2 ?_;show(_,_,aG z,())=(_,_,aG z,());rw[fX c,oA,gW (2^(32*a))]
  rintro _ rfl;dsimp only;rw[a6 (aw (show¬(((aG z).2.1.length:Int)<aq (aG z).2.1) by simp only[aW];omega)),List.take_of_length_le (Nat.le_refl _),k];refine ac.af.2 ?_;show(((z.natAbs:Nat):Int),aG z,())=_;rw[(U:((z.natAbs:Nat):Int)=z)]
 rintro _ rfl;have i:(aG z).1=false:=aw U;dsimp only;rw[i,cond_false,a6 (aw (U:¬(z>9223372036854775807))),bf U U];exact ac.af.2 rfl
theorem LS (d:ax e.natAbs<=1900000) (g:-1048576<=b) (h:b<=1048576):oX (aG e,b,())=some (aG (nr e b),0,()):=by
 rcases gH b 0 with f|f
 ·obtain⟨a,c⟩:∃a:Nat,b=-(a:Int):=⟨(-b).toNat,U⟩;subst c;rw[ZR d U U,u4]
 obtain⟨a,c⟩:∃a:Nat,b=(a:Int):=⟨b.toNat,U⟩;subst c;rw[ZS d U,lT]
theorem xP (f:ax e.natAbs<=2900000) (g:-10000000<=b) (h:b<=10000000):jR (aG e,b,())=some (aG (nr e b),()):=by
 rcases gH b 0 with d|d
 ·obtain⟨a,c⟩:∃a:Nat,b=-(a:Int):=⟨(-b).toNat,U⟩;subst c;rw[LD f U U,u4]
 obtain⟨a,c⟩:∃a:Nat,b=(a:Int):=⟨b.toNat,U⟩;subst c;rw[xQ U U,lT]
def bj (a:Int):Int:=if a=0 then 0 else eh a
theorem uQ:a1 0=0:=rfl
theorem eJ (a:Int):aR (some a)=(false,aG (a1 a),bj a,()):=by
 by_cases b:a=0
 ·subst b;rfl
 rw[HG b,bj,if_neg b]
theorem hD (a:eK b):ax (a1 b).natAbs<=131072:=by
 by_cases c:b=0
 ·subst c;exact a
 rw[VX c];unfold eK at a;omega
theorem hO (a:eK b):-65536<=bj b/\bj b<=65536:=by
 unfold bj;split
 ·omega
 rename_i c;have:=s3 (n:=b.natAbs) U;unfold eK at a;unfold eh;omega
theorem A6 (c:eK b):e9 (a1 b) (bj b)=some b:=by
 by_cases a:b=0
 ·subst a;rfl
 rw[bj,if_neg a,Vu c]
theorem VY (c:b=0\/e<=eh b) (g:-65536<=e):a1 b*2^(bj b-e).toNat*2^(e+65536).toNat=b:=by
 by_cases a:b=0
 ·subst a;rw[uQ];simp
 have d:=q1 b;have f:=c.resolve_left a;rw[bj,if_neg a,ja,<-jb];have:(eh b-e).toNat+(e+65536).toNat=bq b.natAbs:=(by unfold eh at*;omega);rw[this,d]
theorem HF (y:b≠0) (t:¬(e+bq b.natAbs< -65536\/65536<e+ax b.natAbs)):aR (e9 b e)=(false,aG (b/2^bq b.natAbs),e+bq b.natAbs,())/\(e9 b e).isSome=true:=by
 obtain⟨a,o⟩:∃a,a=nr b (e+65536):=⟨_,rfl⟩;have B:e9 b e=some a:=(by unfold e9;rw[if_neg y,if_neg t,o]);rw[B];refine⟨?_,rfl⟩;obtain⟨g,w⟩:=rb (n:=b.natAbs) U;have l:=(sx (n:=b.natAbs) (k:=bq b.natAbs) U).1 (a8 _);have A:b/2^bq b.natAbs*2^bq b.natAbs=b:=C6 l;have z:(b/2^bq b.natAbs).natAbs=2*g+1:=by
  rw[xm l]
  conv=>lhs;lhs;rw[w]
  exact Nat.mul_div_cancel _ (ht _)
 generalize G:bq b.natAbs=d at*;generalize F:b/2^d=j at*;have i:a=j*2^(e+d+65536).toNat:=by
  rw[o,<-A];rcases Int.le_total 0 (e+65536) with s|s
  ·obtain⟨c,h⟩:∃c:Nat,e+65536=c:=⟨(e+65536).toNat,U⟩;rw[h,lT,ja,<-jb];congr 2;omega
  obtain⟨c,h⟩:∃c:Nat,e+65536=-(c:Int):=⟨(-(e+65536)).toNat,U⟩;obtain⟨q,x⟩:∃q:Nat,d=q+c:=⟨d-c,U⟩;rw[h,u4,x,jb,<-ja,Int.mul_ediv_cancel _ (by have:=h6 c;omega)];congr 2;omega
 obtain⟨f,v⟩:∃f:Nat,e+d+65536=f:=⟨(e+d+65536).toNat,U⟩;rw[v,de] at i;have p:a.natAbs=(2*g+1)*2^f:=(by rw[i,lg,z]);have m:bq a.natAbs=f:=u9 p;have C:a≠0:=(by intro u;rw[u] at p;have D:=Nat.mul_pos (U:0<2*g+1) (ht f);have E:(0:Int).natAbs=0:=rfl;omega);rw[HG C];have aj:a1 a=j:=(by unfold a1;rw[m,i,Int.mul_ediv_cancel _ (by have:=h6 f;omega)]);have r:eh a=e+d:=(by unfold eh;rw[m];omega);rw[aj,r]
theorem Lp {m:Int} {n:Nat} (b:ax m.natAbs<=1900000) (f:n<=1048576):vU (aG m,(n:Int),())=some (aG (m/2^n),()):=by
 unfold vU;dsimp only;refine ac.eq_iff.1 ?_;refine ac.aU (P:=λd=>d=((n:Int),aG m,(false,([],())),())) ?_ ?_
 ·refine ac.steps 0 (λc a=>a=((n:Int),aG m,(false,([],())),())) rfl (λc a e=>by omega) ?_;rintro _ rfl;dsimp only;rw[a6 (aw (U:¬((n:Int)>1048576)))];exact ac.af.2 rfl
 rintro _ rfl;dsimp only;rw[bf U U,Int.zero_sub];refine ac.bs (LS b U U) (ac.af.2 ?_);rw[u4]
theorem uA {m k:Int} (c:ax m.natAbs<=1900000) (a:0<=k) (b:k<=1048576):lJ (aG m,k,())=some (aG (m*2^k.toNat),()):=by unfold lJ;refine ai (LS c U b) ?_;obtain⟨d,rfl⟩:=ew a;show some (aG (nr m (d:Int)),())=_;rw[lT];rfl
theorem Jw (q:ax e.natAbs<=900000) (o:-1000000000000<=r) (p:r<=1000000000000):mh ((false,aG e,r,()),())=some (aR (e9 e r),(e9 e r).isSome,()):=by
 obtain⟨h,l,m⟩:=fO (z:=e) U;unfold mh;dsimp only;rw[cond_false];have g:=VT (b:=aG e) h U;rw[mK] at g;refine ai g ?_;refine ai (py (hA U)) ?_;dsimp only;rw[dM,bu];split
 ·rename_i a;have:e=0:=by
   unfold dH at a;split at a
   ·assumption
   split at a<;>omega
  subst this;rfl
 rename_i a;have c:e≠0:=(by intro r;subst r;exact a rfl);have s:=s3 (n:=e.natAbs) U;refine ai (Mp (hA U) c) ?_;dsimp only;by_cases f:r+bq e.natAbs< -65536\/65536<r+ax e.natAbs
 ·have k:e9 e r=none:=(by unfold e9;rw[if_neg c,if_pos f]);rw[k];refine ai (y:=.inr (aR none,false,())) ?_ rfl;refine ai (y:=(true,(false,((false,([],())),((0:Int),()))),aG e,())) ?_ rfl;refine ai (rK (hA U)) ?_;dsimp only;rw[bf (x:=65536-(ax e.natAbs:Int)) U U,bf U U];by_cases d:r>65536-(ax e.natAbs:Int)
  ·rw[az d];rfl
  rw[aw d,az (U:r< -65536-(bq e.natAbs:Int))];rfl
 obtain⟨i,j⟩:=HF c f;rw[i,j];refine ai (y:=.inl ((false,((false,([],())),((0:Int),()))),aG e,())) ?_ ?_
 ·refine ai (y:=(false,(false,((false,([],())),((0:Int),()))),aG e,())) ?_ rfl;refine ai (rK (hA U)) ?_;dsimp only;rw[bf (x:=65536-(ax e.natAbs:Int)) U U,bf U U];rw[aw (U:¬(r>65536-(ax e.natAbs:Int))),aw (U:¬(r< -65536-(bq e.natAbs:Int)))];rfl
 refine ai (Lp U U) ?_;dsimp only;rw[bf U U]
theorem sH (b:dc h):mh (aR h,())=some (aR h,h.isSome,()):=by
 cases h with
 |none=>rfl
 |some c=>
  have a:=b c rfl;have d:=hD a;have e:=hO a;rw[eJ,Jw U U U,A6 a,eJ]
theorem xf (d:ax e.natAbs<=900000) (a:-1000000000000<=b) (c:b<=1000000000000):qf (aG e,b,())=some (aR (e9 e b),()):=by unfold qf;exact ai (Jw d a c) rfl
theorem Ar (a:dc h):rW (aR h,())=some (aR h,()):=by unfold rW;exact ai (sH a) rfl
def lS (a:cT):Int:=dH (a.getD 0)
theorem Ff (a:Int):dH (a1 a)=dH a:=by
 unfold dH;have:=uP (v:=a);by_cases b:a=0
 ·subst b;rfl
 have:=gK b;rw[if_neg this,if_neg b];split<;>split<;>first|rfl|omega
theorem mj (a:dc h):oV (aR h,())=some (lS h,()):=by
 unfold oV;refine ai (sH a) ?_;cases h with
 |none=>exact ai (py (z:=0) (hA aa)) rfl
 |some b=>
  have c:=hD (a b rfl);rw[eJ];refine ai (py (hA U)) ?_;show some (dH (a1 b),())=_;rw[Ff];rfl
theorem Fx {a b:cT} (c:dc a) (d:dc b):tO (aR a,aR b,())=some (aR a,aR b,a.isSome&&b.isSome,()):=by unfold tO;refine ai (sH c) (ai (sH d) ?_);cases a<;>rfl
def jZ (c d:cT):cT:=c.bind λa=>d.bind λb=>e9 (a1 a*a1 b) (bj a+bj b)
def nR (a b:cT):cT:=a.bind λc=>b.bind λd=>k9 (c+d)
def ob (a:cT):cT:=a.map λb=>-b
def tx (a:cT):cT:=a.map λb=>(b.natAbs:Int)
theorem Bb (b c:cT):dc (jZ b c):=by
 intro d a;unfold jZ at a;cases b with
 |none=>cases a
 |some e=>cases c with
  |none=>cases a
  |some f=>exact Ec _ _ d a
theorem Gh (b c:cT):dc (nR b c):=by
 intro d a;unfold nR at a;cases b with
 |none=>cases a
 |some e=>cases c with
  |none=>cases a
  |some f=>exact G3 _ d a
theorem Ek (b:dc h):dc (ob h):=by
 intro d a;cases h with
 |none=>cases a
 |some c=>cases a;have:=b c rfl;unfold eK at*;rw[pN];exact this
theorem Rv (b:dc h):dc (tx h):=by
 intro d a;cases h with
 |none=>cases a
 |some c=>cases a;have:=b c rfl;unfold eK at*;rw[pM];exact this
theorem Hs (a:dc h) (b:dc n):vP (aR h,aR n,())=some (aR (jZ h n),()):=by
 unfold vP;refine ai (Fx a b) ?_;cases h with
 |none=>rfl
 |some c=>
  cases n with
  |none=>rfl
  |some d=>
   have e:=hD (a c rfl);have f:=hD (b d rfl);have g:=hO (a c rfl);have i:=hO (b d rfl);rw[eJ,eJ];refine ai (Jh U U) ?_;dsimp only;rw[bf U U];refine ai (xf ?_ U U) rfl;rw[Int.natAbs_mul];have:=nU e f;omega
theorem Eo (a:Int):a1 (-a)=-a1 a:=by have c:=q1 a;have b:=q1 (-a);rw[pN] at b;have e:=h6 (bq a.natAbs);have d:a1 (-a)*2^bq a.natAbs=-a1 a*2^bq a.natAbs:=(by rw[b,Int.neg_mul,c]);exact Int.eq_of_mul_eq_mul_right U d
theorem Dk (a:Int):bj (-a)=bj a:=by
 unfold bj eh;rw[pN];by_cases b:a=0
 ·subst b;rfl
 rw[if_neg b,if_neg U]
theorem Jy (a:Int):a1 (a.natAbs:Int)=((a1 a).natAbs:Int):=by
 have c:=uP (v:=a);rcases gH a 0 with b|b
 ·rw[(U:(a.natAbs:Int)=-a),Eo];have:=c.2 b;omega
 rw[(U:(a.natAbs:Int)=a)];have:=mt c.1 U;omega
theorem HL (a:Int):bj (a.natAbs:Int)=bj a:=by
 rcases gH a 0 with b|b
 ·rw[(U:(a.natAbs:Int)=-a),Dk]
 rw[(U:(a.natAbs:Int)=a)]
theorem Ht (b:dc h):vQ (aR h,())=some (aR (ob h),()):=by
 unfold vQ;refine ai (sH b) ?_;cases h with
 |none=>rfl
 |some a=>
  have c:=hD (b a rfl);rw[eJ];refine ai (ai (Jr (hA U)) rfl) ?_;show some ((false,aG (-a1 a),bj a,()),())=some (aR (some (-a)),());rw[eJ,Eo,Dk]
theorem SJ (b:dc h):yW (aR h,())=some (aR (tx h),()):=by
 unfold yW;refine ai (sH b) ?_;cases h with
 |none=>rfl
 |some a=>
  have c:=hD (b a rfl);rw[eJ];refine ai (ai (yu (hA U)) rfl) ?_;show some ((false,aG ((a1 a).natAbs:Int),bj a,()),())=some (aR (some (a.natAbs:Int)),());rw[eJ,Jy,HL]
def gV (a b:Int):Int:=a1 a*2^(bj a-b).toNat
theorem pC {v e:Int} (a:v=0\/e<=eh v) (b:-65536<=e):gV v e*2^(e+65536).toNat=v:=VY a b
theorem ov (a:b=0\/e<=eh b) (f:-65536<=e) (g:eK b):ax (gV b e).natAbs<=131072:=by
 have c:=pC a f;have d:(gV b e).natAbs<=b.natAbs:=by
  conv=>rhs;rw[<-c,lg]
  exact Nat.le_mul_of_pos_right _ (ht _)
 exact da (hJ d) g
theorem DX (c:b=0\/e<=eh b) (h:-65536<=e) (i:e<=65536) (a:eK b) (d:e<=bj b):lJ (aG (a1 b),bj b-e,())=some (aG (gV b e),()):=by have f:=hD a;have g:=hO a;exact uA U U U
theorem I4 (a:-65536<=b) (c:e=0\/b<=eh e) (d:r=0\/b<=eh r):e9 (gV e b+gV r b) b=k9 (e+r):=by refine A7 a ?_;rw[Int.add_mul,pC c a,pC d a]
theorem hh (a:e<=bj b):b=0\/e<=eh b:=by
 by_cases c:b=0
 ·exact .inl c
 rw[bj,if_neg c] at a;exact .inr a
theorem Gk (g:eK b) (h:eK e):∃a,a<=bj b/\a<=bj e/\-65536<=a/\a<=65536/\vT (aR (some b),aR (some e),())=some (aG (gV b a),aG (gV e a),a,()):=by have i:=hO g;have j:=hO h;refine⟨if bj e<bj b then bj e else bj b,by split<;>omega,by split<;>omega,by split<;>omega,by split<;>omega,?_⟩;unfold vT;rw[eJ,eJ];dsimp only;generalize c:(if bj e<bj b then bj e else bj b)=a;have aj:a<=bj b:=(by rw[<-c];split<;>omega);have d:a<=bj e:=(by rw[<-c];split<;>omega);have f:-65536<=a:=(by rw[<-c];split<;>omega);rw[bf (x:=bj b-a) U U,bf (x:=bj e-a) U U];exact ai (DX (hh aj) f U g aj) (ai (DX (hh d) f U h d) rfl)
theorem SK (e:dc h) (b:dc n):yX (aR h,aR n,())=some (aR (nR h n),()):=by
 unfold yX;refine ai (Fx e b) ?_;cases h with
 |none=>rfl
 |some i=>
  cases n with
  |none=>rfl
  |some j=>
   have f:=e i rfl;have g:=b j rfl;obtain⟨c,aj,d,a,o,m⟩:=Gk f g;have k:=ov (hh aj) a f;have l:=ov (hh d) a g;refine ai m (ai (Cq U U) ?_);have b:ax (gV i c+gV j c).natAbs<=131073:=da (hJ (Int.natAbs_add_le _ _)) (yG k l);refine ai (xf U U U) ?_;rw[I4 a (hh aj) (hh d)];rfl
theorem SU (b:dc h) (a:dc n):y3 (aR h,aR n,())=some (aR (nR h (ob n)),()):=by unfold y3;exact ai (Ht a) (ai (SK b (Ek a)) rfl)
theorem BY (c:-65536<=b) (h:e=0\/b<=eh e) (i:r=0\/b<=eh r):gV e b<gV r b↔e<r:=by
 have f:=pC h c;have g:=pC i c;have d:=h6 (b+65536).toNat;constructor
 ·intro a;have:=pL a d;omega
 intro a;rw[<-f,<-g] at a;exact Int.lt_of_mul_lt_mul_right a (dL d)
theorem SL (g:eK e) (h:eK r):vO (aR (some e),aR (some r),())=some (dy e r,true,()):=by unfold vO;refine ai (Fx (a:=some e) (b:=some r) (λl f=>by cases f;exact g) (λl f=>by cases f;exact h)) ?_;obtain⟨o,aj,d,c,p,i⟩:=Gk g h;have m:=ov (hh aj) c g;have n:=ov (hh d) c h;refine ai i (ai (CG U U) ?_);have j:=BY c (hh aj) (hh d);have k:=BY c (hh d) (hh aj);dsimp only;unfold dy;simp only[j,k]
def mr (a:Int):cT:=e9 a 0
theorem SM (a:-9223372036854775808<=b) (c:b<=9223372036854775807):yY (b,())=some (aR (mr b),()):=by unfold yY;have d:ax b.natAbs<=64:=df.2 U;exact ai (AG a c) (ai (xf U aa aa) rfl)
def e0:cL->Int
 |[]=>0
 |d::a=>d.getD 0+e0 a
def fN:cL->Bool
 |[]=>true
 |d::a=>d.isSome&&fN a
def fQ (a:cL):cT:=if fN a=true then k9 (e0 a) else none
theorem Fm (b:cL):dc (fQ b):=by
 intro c a;unfold fQ at a;split at a
 ·exact G3 _ c a
 cases a
theorem BU (a b:cL):e0 (a++b)=e0 a+e0 b:=by
 induction a with
 |nil=>simp[e0]
 |cons d a c=>simp only[jd,e0,c];omega
theorem yz (a b:cL):fN (a++b)=(fN a&&fN b):=by
 induction a with
 |nil=>simp[fN]
 |cons d a c=>simp only[jd,fN,c,Bool.and_assoc]
theorem Fu (b:a<p.length):e0 (p.take (a+1))=e0 (p.take a)+(p[a]).getD 0:=by rw[hq,bo b];show e0 (p.take a++[p[a]])=_;rw[BU];simp[e0]
theorem Gp (b:a<p.length):fN (p.take (a+1))=(fN (p.take a)&&(p[a]).isSome):=by rw[hq,bo b];show fN (p.take a++[p[a]])=_;rw[yz];simp[fN]
theorem Gn (b:fN p=true) (c:a<p.length):∃e,p[a]=some e:=by
 induction p generalizing a with
 |nil=>simp at c
 |cons f p d=>
  simp only[fN,bd] at b;cases a with
  |zero=>exact Option.isSome_iff_exists.1 b.1
  |succ a=>exact d b.2 (by simpa using c)
theorem Gm (c:a<p.length) (b:p[a]=none):fN p=false:=by
 cases d:fN p with
 |false=>rfl
 |true=>obtain⟨f,e⟩:=Gn d c;rw[e] at b;cases b
theorem Hu (A:∀B∈p,dc B) (L:p.length<=1000000):vS (p.map aR,())=some (aR (fQ p),()):=by
 unfold vS;refine ac.eq_iff.1 ?_;dsimp only;refine ac.aU (P:=λs=>match s with
  |.inl o=>∃b,o=(b,(false,((false,([],())),((0:Int),()))),p.map aR,())/\fN p=true/\-65536<=b/\b<=0/\(∀a d,(C:a<p.length)->p[a]=some d->b<=bj d)
  |.inr o=>o=(aR (fQ p),())) ?_ ?_
 ·refine ac.steps p.length (λa v=>∃b,v=(b,(a:Int),(false,((false,([],())),((0:Int),()))),(p.take a).map aR,())/\fN (p.take a)=true/\-65536<=b/\b<=0/\(∀h d,(C:h<p.length)->h<a->p[h]=some d->b<=bj d)) ⟨0,rfl,rfl,aa,aa,λh d f g=>by omega⟩ ?_ ?_
  ·rintro a _ e ⟨b,rfl,f,g,t,l⟩;have z:=A p[a] (List.getElem_mem e);dsimp only;rw[bc (az (show(a:Int)<aq (p.map aR) by simp only[aW,List.length_map];omega))];refine ac.bs (y:=aR p[a]) ?_ (ac.bs (sH z) ?_)
   ·rw[bM (by simpa using e),List.getElem_map]
   dsimp only;cases m:p[a] with
   |none=>
    refine ac.bs rfl (ac.af.2 ?_);show(aR none,())=_;rw[fQ,if_neg];rw[Gm e m];simp
   |some d=>
    have n:eK d:=z d m;have I:=hO n;show ac ((bK _).bind _) _;rw[dU (by simp;omega)];refine ac.af.2 ⟨if bj d<b then bj d else b,?_,?_,by split<;>omega,by split<;>omega,?_⟩
    ·rw[bg U,hq,bo e,m];simp only[Option.toList_some,gb,ep,pS,eJ]
    ·rw[Gp e,f,m];rfl
    intro h K J N u;rcases bp h a with w|w
    ·have:=l h K J w u;split<;>omega
    obtain rfl:h=a:=U;rw[m] at u;cases u;split<;>omega
  rintro _ ⟨b,rfl,f,g,t,l⟩;dsimp only;rw[a6 (aw (show¬((p.length:Int)<aq (p.map aR)) by simp only[aW,List.length_map];omega))];rw[List.take_of_length_le (Nat.le_refl _)] at f|-;exact ac.af.2 ⟨b,rfl,f,g,t,λa d e j=>l a d e e j⟩
 rintro(s|s) r
 ·obtain⟨b,rfl,f,g,t,l⟩:=r;dsimp only;refine ac.aU (P:=λo=>∃c,o=((false,((false,([],())),((0:Int),()))),aG c,())/\c*2^(b+65536).toNat=e0 p/\ax c.natAbs<=200000) ?_ ?_
  ·have x:∀c:Int,c.natAbs<=p.length*2^131072->ax c.natAbs<=200000:=λc G=>by
    refine da (hJ G) ?_;have:ax p.length<=20:=df.2 U;have D:ax (2^131072)<=131073:=df.2 (xF 131072 131073 aa);have:=nU this D;omega
   refine ac.steps p.length (λa v=>∃c,v=((a:Int),(false,((false,([],())),((0:Int),()))),p.map aR,aG c,())/\c*2^(b+65536).toNat=e0 (p.take a)/\c.natAbs<=a*2^131072) ⟨0,rfl,by rw[pP];simp[e0],(dQ _:(0:Nat)<=_)⟩ ?_ ?_
   ·rintro a _ e ⟨c,rfl,i,k⟩;obtain⟨d,j⟩:=Gn f e;have n:eK d:=A p[a] (List.getElem_mem e) d j;have q:=l a d e j;have H:=ov (hh q) g n;have I:=hO n;have M:=x c (Nat.le_trans k (Nat.mul_le_mul_right _ U));dsimp only;rw[bc (az (show(a:Int)<aq (p.map aR) by simp only[aW,List.length_map];omega)),jv (by simpa using e),List.getElem_map,j,eJ];dsimp only;rw[bf U U];refine ac.bs (DX (hh q) g U n q) (ac.bs (Cq U U) (ac.af.2 ⟨c+gV d b,by rw[bg U],?_,?_⟩))
    ·rw[Int.add_mul,i,pC (hh q) g,Fu e,j];rfl
    have E:=df.1 H;have F:=Int.natAbs_add_le c (gV d b);exact da F (Jj k E)
   rintro _ ⟨c,rfl,i,k⟩;dsimp only;rw[a6 (aw (show¬((p.length:Int)<aq (p.map aR)) by simp only[aW,List.length_map];omega))];rw[List.take_of_length_le (Nat.le_refl _)] at i;exact ac.af.2 ⟨c,rfl,i,x c k⟩
  rintro _ ⟨c,rfl,i,k⟩;refine ac.bs (xf U U U) (ac.af.2 ?_);show(aR (e9 c b),())=_;rw[A7 g i.symm,fQ,if_pos f]
 have r:s=_:=r;rw[r];exact ac.af.2 rfl
theorem h8:(dH b==0)=decide (b=0):=by
 rw[dM,decide_eq_decide];unfold dH;constructor
 ·intro a;split at a
  ·assumption
  split at a<;>omega
 intro a;rw[if_pos a]
theorem EY {m:Int} {n:Nat} (e:ax m.natAbs<=1900000) (f:n<=1048576):uf (aG m,(n:Int),())=some (aG (m/2^n),()):=by
 unfold uf;dsimp only;refine ac.eq_iff.1 ?_;refine ac.aU (P:=λc=>c=((n:Int),aG m,(false,([],())),())) ?_ ?_
 ·refine ac.steps 0 (λb a=>a=((n:Int),aG m,(false,([],())),())) rfl (λb a d=>by omega) ?_;rintro _ rfl;dsimp only;rw[a6 (aw (U:¬((n:Int)>1048576)))];exact ac.af.2 rfl
 rintro _ rfl;dsimp only;rw[bf U U,Int.zero_sub];refine ac.bs (xP U U U) (ac.af.2 ?_);rw[u4]
theorem Lr {b:nx} {m:Int} (o:aI b.2.1) (w:b.2.1.length<=100000000) (c:e6 b=m) (F:ax m.natAbs<=900000) (B:-1000000000000<=e) (C:e<=1000000000000):mi (b,e,())=some (aR (e9 m e),()):=by
 unfold mi;dsimp only;have p:=Lw o w;rw[c] at p;refine ai p ?_;dsimp only;rw[pe,bu];split
 ·rename_i d;have:=uj.1 d;subst this;rfl
 rename_i d;have a:m≠0:=λe=>d (uj.2 e);have G:=s3 (n:=m.natAbs) U;have E:=nV (m:=m.natAbs) U;rw[bu];split
 ·rename_i q;have f:e9 m e=none:=(by unfold e9;rw[if_neg a,if_pos U]);rw[f];rfl
 rename_i q;refine ai (LH U a) (ai (xJ U) (ai (EY (m:=(m.natAbs:Int)) (by rw[Int.natAbs_natCast];omega) U) ?_));have l:=(sx (n:=m.natAbs) (k:=bq m.natAbs) U).1 (Nat.le_refl _);have u:(m.natAbs:Int)/2^bq m.natAbs=(((m/2^bq m.natAbs).natAbs:Nat):Int):=(by rw[xm l,<-iI,<-Int.natCast_ediv]);have h:ax ((m/2^bq m.natAbs).natAbs)=ax m.natAbs-bq m.natAbs:=(by rw[xm l,oR]);rw[u];dsimp only;rw[bf (x:=e+(bq m.natAbs:Int)) U U];by_cases i:e+bq m.natAbs< -65536\/65536<e+ax m.natAbs
 ·have f:e9 m e=none:=(by unfold e9;rw[if_neg a,if_pos i]);rw[f];refine ai (y:=.inr (aR none,())) ?_ rfl;refine ai (y:=(true,(false,((false,([],())),((0:Int),()))),aG ((m/2^bq m.natAbs).natAbs:Int),())) ?_ rfl;by_cases g:e+(bq m.natAbs:Int)< -65536
  ·rw[az g];rfl
  rw[aw g];refine ai (sS (by rw[Int.natAbs_natCast];omega)) ?_;rw[Int.natAbs_natCast,h];dsimp only;rw[bf U U,az (U:e+(bq m.natAbs:Int)+((ax m.natAbs-bq m.natAbs:Nat):Int)>65536)]
 obtain⟨r,D⟩:=HF a i;rw[r];refine ai (y:=.inl ((false,((false,([],())),((0:Int),()))),aG ((m/2^bq m.natAbs).natAbs:Int),())) ?_ ?_
 ·refine ai (y:=(false,(false,((false,([],())),((0:Int),()))),aG ((m/2^bq m.natAbs).natAbs:Int),())) ?_ rfl;rw[aw (U:¬(e+(bq m.natAbs:Int)< -65536))];refine ai (sS (by rw[Int.natAbs_natCast];omega)) ?_;rw[Int.natAbs_natCast,h];dsimp only;rw[bf U U,aw (U:¬(e+(bq m.natAbs:Int)+((ax m.natAbs-bq m.natAbs:Nat):Int)>65536))]
 dsimp only;congr 3;have z:b.1=decide (m/2^bq m.natAbs<0):=by
  have s:(m/2^bq m.natAbs<0)↔m<0:=uP (v:=m);have t:b.1=decide (m<0):=by
   have A:=dx o;unfold e6 at c;cases j:b.1 with
   |true=>rw[j,if_pos rfl] at c;exact(az U).symm
   |false=>rw[j,if_neg ab] at c;exact(aw U).symm
  rw[t,decide_eq_decide];exact s.symm
 rw[z];rfl
theorem sW {e:Int} (d:ax b.natAbs<=900000) (a:-1000000000000<=e) (c:e<=1000000000000):mi (aG b,e,())=some (aR (e9 b e),()):=
 Lr (kK b) (by have:=(fO (z:=b) U).2.2;omega) (mK b) d a c
theorem kt {d:cT} (c:dc d):iU (aR d,())=some (aR d,()):=by
 cases d with
 |none=>rfl
 |some b=>
  have a:=c b rfl;have f:=hD a;have g:=hO a;unfold iU;rw[eJ];refine ai (sW (e:=bj b) U U U) ?_;rw[A6 a,eJ]
theorem m1 (a:cT):(aR a).1=!a.isSome:=by
 cases a with
 |none=>rfl
 |some b=>rw[eJ];rfl
theorem Lg (a:dc h):ww (aR h,())=some (lS h,()):=by
 unfold ww;refine ai (kt a) ?_;cases h with
 |none=>rfl
 |some b=>
  have c:=hD (a b rfl);rw[eJ];refine ai (hP U) ?_;show some (dH (a1 b),())=_;rw[Ff];rfl
theorem Lf (c:dc h):ud (aR h,())=some (aR (ob h),()):=by
 unfold ud;refine ai (kt c) ?_;cases h with
 |none=>rfl
 |some b=>
  have a:=c b rfl;have f:=hD a;have g:=hO a;rw[eJ];refine ai (Lv U) (ai (sW (e:=bj b) (by rw[pN];omega) U U) ?_);have d:eK (-b):=(by unfold eK at*;rw[pN];exact a);rw[<-Eo,<-Dk,A6 d];rfl
theorem Lc (c:dc h):wu (aR h,())=some (aR (tx h),()):=by
 unfold wu;refine ai (kt c) ?_;cases h with
 |none=>rfl
 |some b=>
  have a:=c b rfl;have f:=hD a;have g:=hO a;rw[eJ];refine ai (xJ U) (ai (sW (e:=bj b) (by rw[pM];omega) U U) ?_);have d:eK (b.natAbs:Int):=(by unfold eK at*;rw[pM];exact a);rw[<-Jy,<-HL,A6 d];rfl
theorem Mq (a:Int):gV 0 a=0:=by unfold gV;rw[uQ,pP]
theorem va (a:Int):gV a (bj a)=a1 a:=by unfold gV;simp
theorem Gj (i:eK b) (j:eK e):∃a,(b=0\/a<=eh b)/\(e=0\/a<=eh e)/\-65536<=a/\a<=65536/\qn (aR (some b),aR (some e),())=some (aG (gV b a),aG (gV e a),a,()):=by
 have m:=hO i;have n:=hO j;have k:=hD i;have l:=hD j;by_cases f:b=0
 ·subst f;refine⟨bj e,.inl rfl,hh (Int.le_refl _),U,U,?_⟩;unfold qn;rw[eJ,eJ];refine ai (hP U) ?_;dsimp only;rw[h8,az (show a1 0=0 from rfl),Mq,va];rfl
 by_cases g:e=0
 ·subst g;refine⟨bj b,hh (Int.le_refl _),.inl rfl,U,U,?_⟩;unfold qn;rw[eJ,eJ];refine ai (hP U) ?_;dsimp only;rw[h8,aw (gK f)];refine ai (hP U) ?_;dsimp only;rw[h8,az (show a1 0=0 from rfl),Mq,va];rfl
 by_cases h:bj b>bj e
 ·refine⟨bj e,hh U,hh (Int.le_refl _),U,U,?_⟩;unfold qn;rw[eJ,eJ];refine ai (hP U) ?_;dsimp only;rw[h8,aw (gK f)];refine ai (hP U) ?_;dsimp only;rw[h8,aw (gK g),az h,bf U U,va];refine ai (xP U U U) ?_;dsimp only;obtain⟨d,c⟩:∃d:Nat,bj b-bj e=d:=⟨(bj b-bj e).toNat,U⟩;rw[c,lT,gV,c];rfl
 refine⟨bj b,hh (Int.le_refl _),hh U,U,U,?_⟩;unfold qn;rw[eJ,eJ];refine ai (hP U) ?_;dsimp only;rw[h8,aw (gK f)];refine ai (hP U) ?_;dsimp only;rw[h8,aw (gK g),aw h,bf (x:=bj e-bj b) U U,va];refine ai (xP U U U) ?_;dsimp only;obtain⟨d,c⟩:∃d:Nat,bj e-bj b=d:=⟨(bj e-bj b).toNat,U⟩;rw[c,lT,gV,c];rfl
theorem Y7 (i:dc h) (f:dc n):zT (aR h,aR n,())=some (aR (nR h n),()):=by
 unfold zT;refine ai (kt i) (ai (kt f) ?_);cases h with
 |none=>rfl
 |some a=>
  cases n with
  |none=>dsimp only;rw[eJ a];rfl
  |some c=>
   have j:=i a rfl;have k:=f c rfl;obtain⟨b,aj,g,d,p,o⟩:=Gj j k;have l:=ov aj d j;have m:=ov g d k;refine ai (y:=.inl (aR (some a),aR (some c),(false,((false,([],())),((0:Int),()))),())) ?_ ?_
   ·dsimp only;rw[m1,m1];rfl
   dsimp only;refine ai o (ai (uW U U) ?_);have f:ax (gV a b+gV c b).natAbs<=131073:=Nat.le_trans (hJ (Int.natAbs_add_le _ _)) (yG l m);refine ai (sW (e:=b) U U U) ?_;rw[I4 d aj g];rfl
theorem Zc (b:dc h) (a:dc n):zZ (aR h,aR n,())=some (aR (nR h (ob n)),()):=by unfold zZ;exact ai (Lf a) (ai (Y7 b (Ek a)) rfl)
theorem Zb (a:dc h) (b:dc n):zW (aR h,aR n,())=some (aR (jZ h n),()):=by
 unfold zW;refine ai (kt a) (ai (kt b) ?_);cases h with
 |none=>rfl
 |some c=>
  cases n with
  |none=>dsimp only;rw[eJ c];rfl
  |some d=>
   have e:=hD (a c rfl);have f:=hD (b d rfl);have g:=hO (a c rfl);have i:=hO (b d rfl);rw[eJ,eJ];refine ai rfl ?_;dsimp only;refine ai (Ls U U) ?_;dsimp only;rw[bf U U];refine ai (sW ?_ U U) rfl;rw[Int.natAbs_mul];have:=nU e f;omega
theorem Y8 (g:eK e) (h:eK b):zU (aR (some e),aR (some b),())=some (dy e b,true,()):=by
 unfold zU;refine ai (kt (d:=some e) (λl f=>by cases f;exact g)) (ai (kt (d:=some b) (λl f=>by cases f;exact h)) ?_);obtain⟨o,aj,c,a,p,i⟩:=Gj g h;have m:=ov aj a g;have n:=ov c a h;refine ai (y:=.inl (aR (some e),aR (some b),())) ?_ ?_
 ·dsimp only;rw[m1,m1];rfl
 dsimp only;refine ai i (ai (EW U U) ?_);have j:=BY a aj c;have k:=BY a c aj;dsimp only;unfold dy;simp only[j,k]
theorem Ld (a:-9223372036854775808<=b) (c:b<=9223372036854775807):wv (b,())=some (aR (mr b),()):=by unfold wv;have d:ax b.natAbs<=64:=df.2 U;exact ai (BG a c) (ai (sW U aa aa) rfl)
theorem EZ (Q:∀F∈p,dc F) (r:p.length<=1000000):ue (p.map aR,())=some (aR (fQ p),()):=by
 unfold ue;refine ac.eq_iff.1 ?_;dsimp only;have O:∀c:Int,c.natAbs<=p.length*2^131072->ax c.natAbs<=200000:=λc S=>(by refine Nat.le_trans (hJ S) ?_;have:ax p.length<=20:=df.2 U;have L:ax (2^131072)<=131073:=df.2 (xF 131072 131073 aa);have:=nU this L;omega);have z:∀(c a:Int) (d:Nat),-65536<=a->d<=p.length->(e0 (p.take d)).natAbs<=d*2^131072->c*2^(a+65536).toNat=e0 (p.take d)->ax c.natAbs<=200000:=λc a d W l j f=>(by refine O c (Nat.le_trans ?_ (Nat.mul_le_mul_right _ l));refine Nat.le_trans ?_ j;rw[<-f,lg];exact Nat.le_mul_of_pos_right _ (Nat.two_pow_pos _));refine ac.aU (P:=λi=>match i with
  |.inl n=>∃a c,n=(a,(false,((false,([],())),((0:Int),()))),aG c,())/\fN p=true/\-65536<=a/\a<=65536/\c*2^(a+65536).toNat=e0 p/\ax c.natAbs<=200000
  |.inr n=>n=(aR (fQ p),())) ?_ ?_
 ·refine ac.steps p.length (λd T=>∃a c,T=(a,(d:Int),(false,((false,([],())),((0:Int),()))),aG c,())/\fN (p.take d)=true/\-65536<=a/\a<=65536/\c*2^(a+65536).toNat=e0 (p.take d)/\(e0 (p.take d)).natAbs<=d*2^131072) ⟨0,0,rfl,rfl,aa,aa,by rw[pP];simp[e0],(dQ _:(0:Nat)<=_)⟩ ?_ ?_
  ·rintro d _ l ⟨a,c,rfl,j,f,q,g,o⟩;have w:=Q p[d] (List.getElem_mem l);have D:=z c a d f U o g;dsimp only;rw[bc (az (show(d:Int)<aq (p.map aR) by simp only[aW,List.length_map];omega))];refine ac.aU (P:=λi=>match i with
    |.inl n=>∃b a c,p[d]=some b/\n=(a,(false,((false,([],())),((0:Int),()))),aG c,())/\-65536<=a/\a<=65536/\c*2^(a+65536).toNat=e0 (p.take d)+b
    |.inr n=>n=.inr (.inr (aR (fQ p),()))) ?_ ?_
   ·refine ac.bs (y:=aR p[d]) ?_ (ac.bs (kt w) ?_)
    ·rw[bM (by simpa using l),List.getElem_map]
    dsimp only;cases A:p[d] with
    |none=>
     refine ac.bs rfl (ac.af.2 ?_);show _=Sum.inr (Sum.inr (aR (fQ p),()));rw[fQ,if_neg]
     ·rfl
     rw[Gm l A];simp
    |some b=>
     have s:eK b:=w b A;have ad:=hO s;have Y:=hD s;rw[eJ];refine ac.bs (hP U) ?_;dsimp only;rw[h8];by_cases E:b=0
     ·subst E;rw[az (show a1 0=0 from rfl)];exact ac.af.2 ⟨0,a,c,rfl,rfl,f,q,by rw[g];omega⟩
     rw[aw (gK E)];refine ac.bs (hP U) ?_;dsimp only;rw[h8];by_cases C:c=0
     ·subst C;rw[az rfl];refine ac.af.2 ⟨b,bj b,a1 b,rfl,rfl,U,U,?_⟩;have:=pC (v:=b) (e:=bj b) (hh (lZ _)) U;rw[va] at this;rw[this,<-g];simp
     rw[aw C];by_cases t:bj b>=a
     ·rw[az t,bf U U];refine ac.bs (xP U U U) ?_;have R:nr (a1 b) (bj b-a)=gV b a:=by
       obtain⟨m,r⟩:∃m:Nat,bj b-a=m:=⟨(bj b-a).toNat,U⟩;rw[r,lT,gV,r];rfl
      have Z:=ov (hh t) f s;rw[R];refine ac.bs (uW U U) (ac.af.2 ⟨b,a,c+gV b a,rfl,rfl,f,q,?_⟩);rw[Int.add_mul,g,pC (hh t) f]
     rw[aw t,bf (x:=a-bj b) U U];obtain⟨m,r⟩:∃m:Nat,a-bj b=m:=⟨(a-bj b).toNat,U⟩;have B:c*2^m*2^(bj b+65536).toNat=e0 (p.take d):=(by rw[<-g,ja,<-jb];congr 2;omega);have X:=z (c*2^m) (bj b) d U U o B;rw[r];refine ac.bs (xP U U U) ?_;rw[lT];refine ac.bs (uW U U) (ac.af.2 ⟨b,bj b,c*2^m+a1 b,rfl,rfl,U,U,?_⟩);have:=pC (v:=b) (e:=bj b) (hh (lZ _)) U;rw[va] at this;rw[Int.add_mul,B,this]
   rintro(i|i) h
   ·obtain⟨b,G,V,u,rfl,H,I,J⟩:=h;have s:eK b:=w b u;refine ac.af.2 ⟨G,V,by rw[bg U],by rw[Gp l,j,u];rfl,H,I,by rw[Fu l,u];exact J,?_⟩;rw[Fu l,u];have M:=Int.natAbs_add_le (e0 (p.take d)) b;have N:b.natAbs<2^131072:=(df (k:=131072)).1 s;show(e0 (p.take d)+b).natAbs<=_;have K:=Jj o N;exact da M K
   have h:i=_:=h;rw[h];exact ac.af.2 rfl
  rintro _ ⟨a,c,rfl,j,f,q,g,o⟩;dsimp only;rw[a6 (aw (show¬((p.length:Int)<aq (p.map aR)) by simp only[aW,List.length_map];omega))];have D:=z c a p.length f (Nat.le_refl _) o g;rw[List.take_of_length_le (Nat.le_refl _)] at j g;exact ac.af.2 ⟨a,c,rfl,j,f,q,g,D⟩
 rintro(i|i) h
 ·obtain⟨a,c,rfl,j,f,q,g,o⟩:=h;refine ac.bs (sW U U U) (ac.af.2 ?_);show(aR (e9 c a),())=_;rw[A7 f g.symm,fQ,if_pos j]
 have h:i=_:=h;rw[h];exact ac.af.2 rfl
def bG (a:Int):Int:=a/4503599627370496 %2048
def eX (a:Int):Int:=a %4503599627370496
def dE (a:Int):Prop:=0<=a/\a<18446744073709551616
def dG (a:Int):cT:=
 if bG a=2047 then none
 else e9 (if a<9223372036854775808 then if bG a=0 then eX a else eX a+4503599627370496 else-(if bG a=0 then eX a else eX a+4503599627370496)) (if bG a=0 then-1074 else bG a-1075)
theorem iH (b:Int):dc (dG b):=by
 intro c a;unfold dG at a;split at a
 ·cases a
 exact Ec _ _ c a
theorem EN (a:dE b):tP (b,())=some (bG b,eX b,()):=by unfold tP;dsimp only;have c:=a.1;have d:=a.2;rw[q8 aa aa,Option.bind_some,show(2:Int)^(52:Int).toNat=4503599627370496 from rfl,p2 11 U U 2047 aa aa,p2 52 U U 4503599627370495 aa aa,bf U U];rfl
theorem GR (k:dE b):(dr IntKind.u64 b 9223372036854775808 !=0)=decide (9223372036854775808<=b):=by
 obtain⟨c,m⟩:=k;obtain⟨a,rfl⟩:=ew c;have j:a<18446744073709551616:=U;have h:(9223372036854775808:Int)=((2^63:Nat):Int):=rfl;rw[h,Gt j aa,bY];rcases bp a (2^63) with d|d
 ·have f:a&&&2^63=0:=by
   refine Nat.eq_of_testBit_eq λl=>?_;rw[Nat.testBit_and,yl,Nat.zero_testBit];by_cases e:63=l
   ·subst e;rw[Nat.testBit_lt_two_pow d];rfl
   rw[aw e,Bool.and_false]
  rw[f,az (show((0:Nat):Int)=0 from rfl),aw (U:¬(((2^63:Nat):Int)<=(a:Int)))];rfl
 have f:a&&&2^63≠0:=(by intro i;have c:(a&&&2^63).testBit 63=false:=(by rw[i];exact Nat.zero_testBit 63);rw[Nat.testBit_and,yl] at c;obtain⟨g,rfl⟩:∃g,a=2^63*1+g:=⟨a-2^63,U⟩;rw[Nat.testBit_two_pow_mul_add 1 U,if_neg U] at c;exact absurd c aa);rw[aw (U:¬(((a&&&2^63:Nat):Int)=0)),az (U:(((2^63:Nat):Int)<=(a:Int)))];rfl
theorem VG (a:dE b):za (b,())=some (decide (9223372036854775808<=b),()):=by unfold za;dsimp only;rw[GR a]
theorem AT (a:dE b):qg (b,())=some (!decide (bG b=2047),()):=by unfold qg;refine ai (EN a) ?_;dsimp only;rw[bY]
def nc (a:Int):Int:=if bG a=2047 then if eX a=0 then 2 else 3 else if bG a=0/\eX a=0 then 0 else 1
theorem UI (f:dE b):y7 (b,())=some (nc b,()):=by
 unfold y7 nc;refine ai (EN f) ?_;dsimp only;rw[dM,bY,dM,dM];by_cases c:bG b=2047
 ·rw[az c,if_pos c];by_cases a:eX b=0
  ·rw[az a,if_pos a];rfl
  rw[aw a,if_neg a];rfl
 rw[aw c,if_neg c];by_cases d:bG b=0
 ·rw[az d];by_cases a:eX b=0
  ·rw[az a,if_pos ⟨d,a⟩];rfl
  rw[aw a,if_neg (λe=>a e.2)];rfl
 rw[aw d,if_neg (λe=>d e.1)];rfl
theorem wT (a:Int):0<=eX a/\eX a<4503599627370496:=by unfold eX;omega
theorem wS (a:Int):0<=bG a/\bG a<2048:=by unfold bG;omega
theorem sJ (g:dE b):nY (b,())=some (aR (dG b),()):=by
 unfold nY dG;have o:=wT b;have n:=wS b;refine ai (EN g) ?_;dsimp only;rw[dM,dM];by_cases e:bG b=2047
 ·rw[az e,if_pos e];rfl
 rw[aw e,if_neg e];obtain⟨c,d,h,i,j,k,l,f⟩:∃c d,(bif decide (bG b=0) then some (Sum.inl ((-1074:Int),eX b,((false,((false,([],())),((0:Int),()))):bD),())) else some (.inl (au (bG b-1075),eA IntKind.u64 (eX b) 4503599627370496,(false,((false,([],())),((0:Int),()))),())):Option ((Int×Int×bD×Unit)⊕ee))=some (.inl (d,c,(false,((false,([],())),((0:Int),()))),()))/\0<=c/\c<9007199254740992/\-1074<=d/\d<=972/\(c=(if bG b=0 then eX b else eX b+4503599627370496)/\d=(if bG b=0 then-1074 else bG b-1075)):=by
  by_cases a:bG b=0
  ·refine⟨eX b,-1074,?_,U,U,U,U,by rw[if_pos a],by rw[if_pos a]⟩;rw[az a];rfl
  refine⟨eX b+4503599627370496,bG b-1075,?_,U,U,U,U,by rw[if_neg a],by rw[if_neg a]⟩;rw[aw a,bf U U,lh 52 U U U U U aa];rfl
 rw[<-f.1,<-f.2];refine ai h ?_;dsimp only;rw[bf U U];have m:ax c.natAbs<=53:=df.2 U;refine ai (AG U U) ?_;refine ai (y:=((false,((false,([],())),((0:Int),()))),aG (if b<9223372036854775808 then c else-c),())) ?_ ?_
 ·refine ai (VG g) ?_;dsimp only;by_cases a:b<9223372036854775808
  ·rw[aw (U:¬(9223372036854775808<=b)),if_pos a];rfl
  rw[az (U:9223372036854775808<=b),if_neg a];exact ai (Jr (hA U)) rfl
 dsimp only;refine ai (xf ?_ U U) rfl;split
 ·omega
 rw[pN];omega
def m3 (d:Bool) (a:Nat) (b:Int) (c:Bool):p1:=(d,aG (a:Int),b,c,())
theorem du (a:Nat):(a:Int).natAbs=a:=by omega
theorem U2 (e:ax a<=900000) (c:-10000000<=b) (d:b<=10000000):y0 (m3 o a b i,())=some (b+ax a-1,()):=by unfold y0 m3;refine ai (rK (hA (by rw[du];omega))) ?_;rw[du];dsimp only;rw[bf (x:=b+(ax a:Int)) U U,bf U U]
theorem SI (p:ax a<=900000) (w:0<a) (C:0<c) (D:c<=10000000):vR (m3 o a b i,(c:Int),())=some (aG ((a/2^c:Nat):Int),iS a c i,decide (a %2^c=0)&&!i,()):=by
 unfold vR m3;refine ai (rK (hA (by rw[du];omega))) ?_;rw[du];dsimp only;have E:=Nat.two_pow_pos c;rw[bu];split
 ·rename_i g;have t:a<2^(c-1):=df.1 U;obtain⟨d,rfl⟩:∃d,c=d+1:=⟨c-1,U⟩;simp only[tr] at t;have aj:a %2^(d+1)=a:=Nat.mod_eq_of_lt (by rw[jg];omega);have j:a/2^(d+1)=0:=Nat.div_eq_of_lt (by rw[jg];omega);rw[aj,j];have l:iS a (d+1) i=-1:=(by unfold iS;rw[aj,if_pos (by rw[jg];omega)]);rw[l,aw (U:¬a=0)];rfl
 rename_i g;have A:=Nat.div_add_mod a (2^c);have F:ax (a/2^c)<=900000:=Nat.le_trans (hJ (Nat.div_le_self _ _)) p;have G:ax (a %2^c)<=900000:=Nat.le_trans (hJ (Nat.mod_le _ _)) p;have q:a/2^c*2^c<=a:=Nat.div_mul_le_self _ _;refine ai (Lp (m:=(a:Int)) (n:=c) (by rw[du];omega) U) ?_;have aj:(a:Int)/2^c=((a/2^c:Nat):Int):=(by rw[<-iI,<-Int.natCast_ediv]);rw[aj];refine ai (uA (m:=((a/2^c:Nat):Int)) (k:=(c:Int)) (by rw[du];omega) U U) ?_;have j:((a/2^c:Nat):Int)*2^(c:Int).toNat=((a/2^c*2^c:Nat):Int):=(by rw[Int.toNat_natCast,<-iI,<-Int.natCast_mul]);rw[j];refine ai (aah (x:=(a:Int)) (y:=((a/2^c*2^c:Nat):Int)) (by rw[du];omega) (by rw[du];exact Nat.le_trans (hJ q) U)) ?_;have l:(a:Int)-((a/2^c*2^c:Nat):Int)=((a %2^c:Nat):Int):=(by rw[Nat.mul_comm] at q|-;omega);rw[l];refine ai (AG (n:=1) aa aa) ?_;dsimp only;rw[bf (x:=(c:Int)-1) U U];refine ai (uA (m:=1) (k:=(c:Int)-1) aa U U) ?_;obtain⟨d,rfl⟩:∃d,c=d+1:=⟨c-1,U⟩;have r:(1:Int)*2^(((d+1:Nat):Int)-1).toNat=((2^d:Nat):Int):=(by rw[Int.one_mul,<-iI];congr 2;omega);rw[r];have B:ax (2^d)<=900000:=(by have:ax (2^d)<=d+1:=df.2 (Nat.pow_lt_pow_right aa U);omega);refine ai (CG (x:=((a %2^(d+1):Nat):Int)) (y:=((2^d:Nat):Int)) (by rw[du];omega) (by rw[du];omega)) ?_;dsimp only;have s:(if dy ((a %2^(d+1):Nat):Int) ((2^d:Nat):Int)=0/\i=true then 1 else dy ((a %2^(d+1):Nat):Int) ((2^d:Nat):Int))=iS a (d+1) i:=by
  unfold iS dy;have u:2^(d+1)=2*2^d:=(by rw[jg,jf]);generalize a %2^(d+1)=e at*;rw[u];generalize 2^d=h at*;rcases l3 e h with f|f|f
  ·rw[if_pos (U:(e:Int)<(h:Int)),if_neg ab,if_pos U]
  ·subst f;have v:(if(e:Int)<(e:Int) then(-1:Int) else if(e:Int)<(e:Int) then 1 else 0)=0:=ab;rw[v,if_neg (U:¬(2*e<2*e)),if_neg (U:¬(2*e<2*e))];cases i<;>simp
  rw[if_neg (U:¬((e:Int)<(h:Int))),if_pos (U:(h:Int)<(e:Int)),if_neg ab,if_neg U,if_pos U]
 refine ai (y:=(iS a (d+1) i,aG ((a/2^(d+1):Nat):Int),aG ((a %2^(d+1):Nat):Int),())) ?_ ?_
 ·rw[<-s,dM];by_cases f:dy ((a %2^(d+1):Nat):Int) ((2^d:Nat):Int)=0
  ·rw[az f];cases i
   ·rw[if_neg (λg=>Bool.false_ne_true g.2)];rfl
   rw[if_pos ⟨f,rfl⟩];rfl
  rw[aw f,if_neg (λg=>f g.1)];rfl
 refine ai (py (z:=((a %2^(d+1):Nat):Int)) (hA (by rw[du];omega))) ?_;dsimp only;rw[h8];by_cases f:a %2^(d+1)=0
 ·rw[az (U:((a %2^(d+1):Nat):Int)=0),az f];cases i<;>rfl
 rw[aw (U:¬((a %2^(d+1):Nat):Int)=0),aw f];rfl
theorem xq {n:Nat}:(n≠0/\bq n=0)↔n %2=1:=by
 constructor
 ·rintro⟨c,a⟩;have:=sx (n:=n) (k:=1) U;rw[a,Nat.pow_one] at this;omega
 intro b;refine⟨U,?_⟩;have:=sx (n:=n) (k:=1) U;rw[Nat.pow_one] at this;omega
theorem VD (A:ax a<=900000) (E:0<a) (K:-1000000<=b-e) (w:b-e<=1000000):y1 (m3 o a b i,e,r,())=some (aG (if o then-((if e<=b then a*2^(b-e).toNat else gR o a (e-b).toNat i r:Nat):Int) else((if e<=b then a*2^(b-e).toNat else gR o a (e-b).toNat i r:Nat):Int)),()):=by
 unfold y1;have v:∀d:Nat,ax d<=2000000->(Option.bind (α:=iQ) (
  bif o then
 (qi (aG (d:Int),())).bind λ(J,_)=>
 some (((false,([],())):bW),J,()) else
 some ((false,([],())),aG (d:Int),())) λ(_,I,_)=>
 some (I,()))=some (aG (if o then-(d:Int) else(d:Int)),()):=λd M=>by
  cases o
  ·rfl
  refine ai (y:=((false,([],())),aG (-(d:Int)),())) ?_ rfl;have L:Fit (d:Int)\/True:=.inr trivial;have B:=fO (z:=(d:Int)) (by rw[du];omega);refine ai (y:=(aG (-(d:Int)),())) ?_ rfl;unfold qi;refine ai (vK (by have:=B.2.2;omega)) (ai (tC (kK _) (by have:=B.2.2;omega)) ?_);have f:=B4 (aG (d:Int)).1 (aG (d:Int)).2.1;have w:=mK (d:Int);rw[f];show some (aG (-e6 (aG (d:Int))),())=_;rw[w]
 by_cases k:e<=b
 ·rw[if_pos k];obtain⟨c,h⟩:∃c:Nat,b-e=c:=⟨(b-e).toNat,U⟩;rw[h,de];refine ai (y:=((-1:Int),true,(false,([],())),aG ((a*2^c:Nat):Int),())) ?_ ?_
  ·show(bif decide (e<=b) then _ else _)=_;rw[az k];refine ai (y:=(aG ((a*2^c:Nat):Int),())) ?_ rfl;show lJ (aG (a:Int),au (b-e),())=_;rw[bf U U,uA (by rw[du];omega) U U,h,de,jF,iI]
  refine ai rfl (ai rfl ?_);exact v _ (da p7 U)
 rw[if_neg k];obtain⟨c,h⟩:∃c:Nat,e-b=c:=⟨(e-b).toNat,U⟩;rw[h,de];refine ai (y:=(iS a c i,decide (a %2^c=0)&&!i,(false,([],())),aG ((a/2^c:Nat):Int),())) ?_ ?_
 ·show(bif decide (e<=b) then _ else _)=_;rw[aw k];refine ai (y:=(aG ((a/2^c:Nat):Int),iS a c i,decide (a %2^c=0)&&!i,())) ?_ rfl;show vR (m3 o a b i,au (e-b),())=_;rw[bf U U,h];exact SI A E U U
 have F:ax (a/2^c)<=900000:=da (hJ (ry _ _)) A;refine ai (y:=(!(decide (a %2^c=0)&&!i)&&s4 o (iS a c i) (decide (a/2^c %2=1)) r,(false,([],())),aG ((a/2^c:Nat):Int),())) ?_ ?_
 ·dsimp only;cases g:(decide (a %2^c=0)&&!i) with
  |true=>rfl
  |false=>
   show(bif r==1 then some (o,_,_,()) else _)=_;unfold s4;rw[dM,dM,dM];by_cases m:r=1
   ·rw[az m,if_pos m];rfl
   rw[aw m,if_neg m];by_cases p:r=2
   ·rw[az p,if_pos p];rfl
   rw[aw p,if_neg p];by_cases q:r=3
   ·rw[az q,if_pos q];rfl
   rw[aw q,if_neg q];generalize iS a c i=j;show(bif decide (j>0)==false then _ else _)=_;by_cases u:j>0
   ·rw[az u];rfl
   rw[aw u];show(bif (j==0)==true then _ else _)=_;rw[dM];by_cases t:j=0
   ·rw[az t];refine ai (py (z:=((a/2^c:Nat):Int)) (hA (by rw[du];omega))) ?_;dsimp only;have C:=xq (n:=a/2^c);rw[bY];by_cases s:a/2^c=0
    ·rw[az (show dH ((a/2^c:Nat):Int)=0 by rw[s];rfl),aw (show¬(a/2^c %2=1) by rw[s];decide)];rfl
    have G:dH ((a/2^c:Nat):Int)≠0:=(by unfold dH;rw[if_neg U];split<;>omega);rw[aw G];refine ai (Mp (z:=((a/2^c:Nat):Int)) (hA (by rw[du];omega)) U) ?_;rw[du];dsimp only;rw[dM];by_cases D:bq (a/2^c)=0
    ·rw[az (U:(bq (a/2^c):Int)=0),az (C.1 ⟨s,D⟩)];rfl
    rw[aw (U:¬(bq (a/2^c):Int)=0),aw (λf=>D (C.2 f).2)];rfl
   rw[aw t];rfl
 dsimp only;refine ai (y:=((false,([],())),aG ((gR o a c i r:Nat):Int),())) ?_ ?_
 ·unfold gR;by_cases g:a %2^c=0/\i=false
  ·rw[if_pos g,az g.1,g.2];rfl
  have H:(decide (a %2^c=0)&&!i)=false:=by
   by_cases f:a %2^c=0
   ·cases i
    ·exact absurd ⟨f,rfl⟩ g
    rw[az f];rfl
   rw[aw f];rfl
  rw[if_neg g,H];by_cases l:s4 o (iS a c i) (decide (a/2^c %2=1)) r=true
  ·rw[if_pos l,l];refine ai (AG (n:=1) aa aa) ?_;refine ai (Cq (x:=((a/2^c:Nat):Int)) (y:=1) (by rw[du];omega) aa) ?_;rfl
  rw[if_neg l,Bool.eq_false_iff.2 l];rfl
 refine v _ ?_;have:gR o a c i r<=a/2^c+1:=by
  unfold gR;split
  ·omega
  split<;>omega
 exact da (hJ this) (da (yG F (aa:ax 1<=900000)) U)
theorem x0 (a:0<=b) (c:b<9223372036854775808):rX (b,i,())=some (ku i b,()):=by
 unfold rX ku;cases i
 ·rfl
 dsimp only;rw[lh 63 a (by exact c) aa U aa aa,Int.add_comm];rfl
theorem KI:zb (i,b,())=some (mB i b,()):=by
 unfold zb mB;dsimp only;refine ai (y:=if(b=3\/(b=1/\i=false)\/(b=2/\i=true)) then .inr (ku i 9218868437227405311,()) else .inl ()) ?_ ?_
 ·refine ai (y:=(decide (b=3\/(b=1/\i=false)\/(b=2/\i=true)),())) ?_ ?_
  ·rw[dM,dM,dM];by_cases e:b=3
   ·subst e;simp
   by_cases c:b=1
   ·subst c;cases i<;>simp
   by_cases d:b=2
   ·subst d;cases i<;>simp
   simp[c,d,e]
  dsimp only;by_cases a:(b=3\/(b=1/\i=false)\/(b=2/\i=true))
  ·rw[az a,if_pos a];exact ai (x0 aa aa) rfl
  rw[aw a,if_neg a];rfl
 by_cases a:(b=3\/(b=1/\i=false)\/(b=2/\i=true))
 ·rw[if_pos a,if_pos a]
 rw[if_neg a,if_neg a];exact ai (x0 aa aa) rfl
theorem BZ {neg qX:Bool} {e ko:Int} (g:0<a):(if bB a e<=e then a*2^(e-bB a e).toNat else gR neg a (bB a e-e).toNat qX ko)<=9007199254740992:=by
 have c:=df.1 (a8 (ax a));have i:=nV g;have j:e+ax a-53<=bB a e:=(by unfold bB;omega);split
 ·rename_i d;have b:a*2^(e-bB a e).toNat<2^ax a*2^(e-bB a e).toNat:=Nat.mul_lt_mul_of_pos_right c (ht _);rw[<-gX] at b;have h:2^(ax a+(e-bB a e).toNat)<=2^53:=nL aa U;have f:(2:Nat)^53=9007199254740992:=aa;omega
 rename_i d;have b:a/2^(bB a e-e).toNat<2^53:=(by rw[Nat.div_lt_iff_lt_mul (ht _),<-gX];exact gO c (nL aa U));have f:(2:Nat)^53=9007199254740992:=aa;unfold gR;split
 ·omega
 split<;>omega
theorem LA (s:ax a<=800000) (h:0<a) (p:-500000<=b) (q:b<=500000):vV (m3 i a b o,r,())=some (h7 i a b o r,()):=by
 have t:=nV h;have u:=BZ (neg:=i) (qX:=o) (ko:=r) (e:=b) h;have m:h7 i a b o r=kR i (if bB a b<=b then a*2^(b-bB a b).toNat else gR i a (bB a b-b).toNat o r) (bB a b) r:=(by unfold h7;split<;>rfl);have n:bB a b=if(-1074:Int)>b+ax a-1-52 then-1074 else b+ax a-1-52:=by unfold bB;split<;>omega
 have w:-1074<=bB a b:=(by unfold bB;omega);have A:bB a b<=1400000:=(by unfold bB;omega);unfold vV;refine ai (U2 U U U) ?_;dsimp only;rw[bf U U,<-n,m];refine ai (VD U h ?_ ?_) ?_
 ·unfold bB;omega
 ·unfold bB;omega
 generalize(if bB a b<=b then a*2^(b-bB a b).toNat else gR i a (bB a b-b).toNat o r)=c at*;generalize bB a b=d at*;have v:ax c<=54:=df.2 U;have l:(if i then-(c:Int) else(c:Int)).natAbs=c:=(by cases i<;>simp);refine ai (yu (hA (by rw[l];omega))) ?_;rw[l];refine ai (Uv (z:=(c:Int)) U U) ?_;dsimp only;rw[bV (x:=(c:Int)) U U,dM];show Option.bind _ _=some (kR i c d r,());unfold kR;by_cases j:c=9007199254740992
 ·rw[az (U:(c:Int)=9007199254740992),if_neg (U:¬c<4503599627370496),if_pos j];refine ai (y:=(d+1,4503599627370496,())) ?_ ?_
  ·show some (aS d,4503599627370496,())=_;unfold aS;rw[wrap64 U U]
  dsimp only;rw[aw (U:¬((4503599627370496:Int)<4503599627370496)),bf U U,cond_false,bu];split
  ·rename_i g;exact ai KI rfl
  rename_i g;rw[bV U U,lU aa aa,show(2:Int)^(52:Int).toNat=4503599627370496 from rfl,aM];have aj:aF (4503599627370496-4503599627370496)=0:=(by rw[bV U U];omega);have f:(d+1+1075)*4503599627370496 %18446744073709551616=(d+1+1075)*4503599627370496:=U;rw[aj,f,xE,lh 52 aa aa U aa U U,Int.zero_add];exact ai (x0 U U) rfl
 rw[aw (U:¬(c:Int)=9007199254740992)];refine ai (y:=(d,(c:Int),())) rfl ?_;dsimp only;rw[bu];by_cases k:c<4503599627370496
 ·rw[if_pos (U:(c:Int)<4503599627370496),if_pos k];exact ai (x0 U U) rfl
 rw[if_neg (U:¬(c:Int)<4503599627370496),if_neg k,if_neg j,bf U U,bu];split
 ·rename_i g;exact ai KI rfl
 rename_i g;rw[bV (x:=d+1075) U U,lU aa aa,show(2:Int)^(52:Int).toNat=4503599627370496 from rfl,Option.bind_some,bV (x:=(c:Int)-4503599627370496) U U];have f:(d+1075)*4503599627370496 %18446744073709551616=(d+1075)*4503599627370496:=U;rw[f,xE,lh 52 U U U U U U];refine ai (x0 U U) ?_;dsimp only;congr 3;omega
def lj (c d:cT) (e:Int):Int:=match c,d with
 |some a,some b=>if b=0 then 9221120237041090560 else if a=0 then 0 else sR a b e
 |_,_=>9221120237041090560
def jx (b:cT) (c:Int):Int:=match b with
 |some a=>if a<0 then 9221120237041090560 else if a=0 then 0 else np a c
 |none=>9221120237041090560
theorem xp (a:Int):(aG (a1 a)).1=decide (a<0):=by show decide (a1 a<0)=_;rw[decide_eq_decide];exact uP
theorem Y3 (i:eK b) (j:eK e) (o:b≠0) (p:e≠0) (k:Int):∃d f l,yZ (aR (some b),aR (some e),56,())=some (m3 (decide (b<0)!=decide (e<0)) d f l,())/\0<d/\ax d<=800000/\-500000<=f/\f<=500000/\h7 (decide (b<0)!=decide (e<0)) d f l k=sR b e k:=by
 have v:=hD i;have w:=hD j;have z:=hO i;have A:=hO j;have t:0<(a1 b).natAbs:=(by have:=gK o;omega);have u:0<(a1 e).natAbs:=(by have:=gK p;omega);obtain⟨a,g⟩:∃a,a=li (a1 b).natAbs (a1 e).natAbs:=⟨_,rfl⟩;have C:a<=131131:=(by rw[g];unfold li;omega);have h:58<=ax ((a1 b).natAbs*2^a/(a1 e).natAbs):=Bv t u (by rw[g];unfold li;omega);have B:ax ((a1 b).natAbs*2^a)<=262203:=(by have:=p7 (m:=(a1 b).natAbs) (n:=a);omega);refine⟨(a1 b).natAbs*2^a/(a1 e).natAbs,bj b-a-bj e,decide ((a1 b).natAbs*2^a %(a1 e).natAbs≠0),?_,?_,?_,U,U,?_⟩
 ·unfold yZ;rw[eJ,eJ];refine ai (rK (hA U)) (ai (rK (hA U)) (ai (yu (hA U)) ?_));dsimp only;have aj:(if au (au (au (56+3)+(ax (a1 e).natAbs:Int))-(ax (a1 b).natAbs:Int))>0 then au (au (au (56+3)+(ax (a1 e).natAbs:Int))-(ax (a1 b).natAbs:Int)) else 0)=(a:Int):=by
   rw[bf (x:=56+3) aa aa,bf (x:=56+3+(ax (a1 e).natAbs:Int)) U U,bf U U,g];unfold li;split<;>omega
  rw[aj];refine ai (uA (m:=((a1 b).natAbs:Int)) (by rw[du];omega) U U) (ai (yu (hA U)) ?_);have q:((a1 b).natAbs:Int)*2^(a:Int).toNat=(((a1 b).natAbs*2^a:Nat):Int):=(by rw[Int.toNat_natCast,<-iI,<-Int.natCast_mul]);rw[q];refine ai (SS (x:=(((a1 b).natAbs*2^a:Nat):Int)) (y:=((a1 e).natAbs:Int)) (by rw[du];omega) (by rw[du];omega) U U) ?_;rw[<-Int.natCast_ediv,<-Int.natCast_emod];have D:ax ((a1 b).natAbs*2^a %(a1 e).natAbs)<=900000:=Nat.le_trans (hJ (Nat.mod_le _ _)) U;refine ai (py (hA (by rw[du];omega))) ?_;dsimp only;rw[bf (x:=bj b-(a:Int)) U U,bf U U,xp,xp];unfold m3;have r:(dH (((a1 b).natAbs*2^a %(a1 e).natAbs:Nat):Int)!=0)=decide ((a1 b).natAbs*2^a %(a1 e).natAbs≠0):=by
   show(!(dH (((a1 b).natAbs*2^a %(a1 e).natAbs:Nat):Int)==0))=_;rw[h8];by_cases c:(a1 b).natAbs*2^a %(a1 e).natAbs=0
   ·rw[az U,aw (λs=>s c)];rfl
   rw[aw U,az c];rfl
  rw[r];rfl
 ·rcases h9 ((a1 b).natAbs*2^a/(a1 e).natAbs) with c|c
  ·rw[c] at h;exact absurd h aa
  exact c
 ·exact da (hJ (ry _ _)) U
 unfold sR pq;rw[<-g];congr 1;unfold bj;rw[if_neg o,if_neg p];omega
theorem TU (f:dc n) (e:dc h):y8 (aR n,aR h,b,())=some (lj n h b,()):=by
 unfold y8;refine ai (Ar f) (ai (Ar e) ?_);dsimp only;rw[m1,m1];cases n with
 |none=>cases h<;>rfl
 |some c=>
  cases h with
  |none=>rfl
  |some a=>
   by_cases d:a=0
   ·subst d;refine ai (y:=.inr (9221120237041090560,())) ?_ rfl;refine ai (y:=(true,aR (some c),aR (some 0),())) ?_ rfl;refine ai (mj e) ?_;rfl
   by_cases g:c=0
   ·subst g;refine ai (y:=.inr (0,())) ?_ ?_
    ·refine ai (y:=(false,aR (some 0),aR (some a),())) ?_ ?_
     ·refine ai (mj e) ?_;dsimp only;rw[show lS (some a)=dH a from rfl,h8,aw d]
     refine ai (mj f) ?_;rfl
    unfold lj;simp only;rw[if_neg d];rfl
   obtain⟨p,q,r,i,j,k,l,m,o⟩:=Y3 (f c rfl) (e a rfl) g d b;refine ai (y:=.inl (aR (some c),aR (some a),())) ?_ ?_
   ·refine ai (y:=(false,aR (some c),aR (some a),())) ?_ ?_
    ·refine ai (mj e) ?_;dsimp only;rw[show lS (some a)=dH a from rfl,h8,aw d]
    refine ai (mj f) ?_;dsimp only;rw[show lS (some c)=dH c from rfl,h8,aw g];rfl
   refine ai i (ai (LA k j l m) ?_);unfold lj;simp only;rw[if_neg d,if_neg g,o]
theorem Zq (r:eK b) (I:0<b) (s:Int):∃g h t,y2 (aR (some b),56,())=some (m3 false g h t,())/\0<g/\ax g<=800000/\-500000<=h/\h<=500000/\h7 false g h t s=np b s:=by
 have A:=hD r;have J:=hO r;have u:b≠0:=U;have O:0<a1 b:=(by have:=uP (v:=b);have:=gK u;omega);obtain⟨a,B⟩:∃a:Nat,a1 b=a:=⟨(a1 b).toNat,U⟩;have o:(a1 b).natAbs=a:=U;rw[o] at A;have C:0<a:=U;have E:bj b=eh b:=(by unfold bj;rw[if_neg u]);obtain⟨c,f⟩:∃c,c=im a (bj b):=⟨_,rfl⟩;have L:c<=119:=(by rw[f];unfold im;split<;>omega);have M:118<=ax a+c:=(by rw[f];unfold im;split<;>omega);have N:(bj b-c) %2=0:=(by rw[f];unfold im;split<;>omega);have K:ax (a*2^c)<=131191:=(by have:=p7 (m:=a) (n:=c);omega);have q:58<=ax (bC (a*2^c)):=w4 (by rw[k8 C];omega);have F:bC (a*2^c)<=a*2^c:=by
  obtain⟨H,R⟩:=pd (a*2^c);rcases h9 (bC (a*2^c)) with d|d
  ·omega
  exact da (Nat.le_mul_of_pos_left _ d) H
 have P:=hJ F;refine⟨bC (a*2^c),(bj b-c)/2,decide (bC (a*2^c)*bC (a*2^c)≠a*2^c),?_,?_,U,U,U,?_⟩
 ·unfold y2;rw[eJ,B];refine ai (rK (hA (by rw[du];omega))) ?_;rw[du];dsimp only;have aj:(if au (au (2*au (56+3))-(ax a:Int))>0 then au (au (2*au (56+3))-(ax a:Int)) else 0)=((118-ax a:Nat):Int):=by
   rw[bf (x:=56+3) aa aa,bf (x:=2*(56+3)) aa aa,bf U U];split<;>omega
  rw[aj];refine ai (y:=((c:Int),(false,((false,([],())),((0:Int),(false,())))),())) ?_ ?_
  ·rw[bf U U];refine ai (y:=(bj b-((118-ax a:Nat):Int)).tmod 2) (by unfold gU;rw[if_pos aa]) ?_;rw[bY];have p:((bj b-((118-ax a:Nat):Int)).tmod 2=0)↔((bj b-((118-ax a:Nat):Int)) %2=0):=by
    constructor
    ·intro e;have:=Int.dvd_of_tmod_eq_zero e;omega
    intro e;exact Int.tmod_eq_zero_of_dvd (Int.dvd_of_emod_eq_zero e)
   by_cases d:(bj b-((118-ax a:Nat):Int)) %2=0
   ·rw[az (p.2 d)];show some (((118-ax a:Nat):Int),_,())=_;rw[f];unfold im;rw[if_pos d]
   rw[aw (λe=>d (p.1 e))];show some (aS ((118-ax a:Nat):Int),_,())=_;rw[bg U,f];unfold im;rw[if_neg d]
  dsimp only;refine ai (uA (m:=(a:Int)) (k:=(c:Int)) (by rw[du];omega) U U) ?_;have w:(a:Int)*2^(c:Int).toNat=((a*2^c:Nat):Int):=(by rw[Int.toNat_natCast,<-iI,<-Int.natCast_mul]);rw[w];refine ai (Z6 (x:=((a*2^c:Nat):Int)) (by rw[du];omega) U) ?_;rw[Int.toNat_natCast];dsimp only;rw[bf U U];refine ai (y:=(bj b-c)/2) ?_ ?_
  ·unfold gm;have:(bj b-(c:Int)).tdiv 2=(bj b-(c:Int))/2:=by
    obtain⟨j,D⟩:∃j,bj b-(c:Int)=2*j:=⟨(bj b-(c:Int))/2,U⟩;rw[D,Int.mul_tdiv_cancel_left _ aa,Cc _ aa]
   rw[if_pos aa,this,wrap64 U U]
  refine ai (Jh (x:=(bC (a*2^c):Int)) (y:=(bC (a*2^c):Int)) (by rw[du];omega) (by rw[du];omega)) ?_;rw[<-Int.natCast_mul];have Q:ax (bC (a*2^c)*bC (a*2^c))<=900000:=(by have:=nU (k:=131191) (l:=131191) (U:ax (bC (a*2^c))<=131191) (U:ax (bC (a*2^c))<=131191);omega);refine ai (CG (x:=((bC (a*2^c)*bC (a*2^c):Nat):Int)) (y:=((a*2^c:Nat):Int)) (by rw[du];omega) (by rw[du];omega)) ?_;dsimp only;unfold m3;have z:(dy ((bC (a*2^c)*bC (a*2^c):Nat):Int) ((a*2^c:Nat):Int)!=0)=decide (bC (a*2^c)*bC (a*2^c)≠a*2^c):=by
   rw[bY];generalize bC (a*2^c)*bC (a*2^c)=i;generalize a*2^c=G;by_cases d:i=G
   ·subst d;rw[aw (show¬(i≠i) fromλe=>e rfl),az (by unfold dy;rw[if_neg U,if_neg U])];rfl
   rw[az d,aw (by unfold dy;split;omega;split<;>omega)];rfl
  rw[z]
 ·rcases h9 (bC (a*2^c)) with d|d
  ·rw[d] at q;exact absurd q aa
  exact d
 unfold np oh;rw[o,<-E,<-f]
theorem TX (c:dc h):y9 (aR h,b,())=some (jx h b,()):=by
 unfold y9;refine ai (Ar c) ?_;dsimp only;rw[m1];cases h with
 |none=>rfl
 |some a=>
  have e:lS (some a)=dH a:=rfl;by_cases d:a<0
  ·refine ai (y:=.inr (9221120237041090560,())) ?_ ?_
   ·refine ai (y:=(true,aR (some a),())) ?_ rfl;refine ai (mj c) ?_;dsimp only;rw[e,az (show dH a<0 by unfold dH;rw[if_neg U,if_pos d];decide)]
   unfold jx;simp only;rw[if_pos d]
  have n:decide (dH a<0)=false:=aw (by unfold dH;split;omega;first|decide|(split<;>omega));by_cases f:a=0
  ·subst f;refine ai (y:=.inr (0,())) ?_ rfl;refine ai (y:=(false,aR (some 0),())) ?_ ?_
   ·exact ai (mj c) rfl
   exact ai (mj c) rfl
  obtain⟨o,p,q,g,i,j,k,l,m⟩:=Zq (c a rfl) U b;refine ai (y:=.inl (aR (some a),())) ?_ ?_
  ·refine ai (y:=(false,aR (some a),())) ?_ ?_
   ·refine ai (mj c) ?_;dsimp only;rw[e,n]
   refine ai (mj c) ?_;dsimp only;rw[e,h8,aw f];rfl
  refine ai g (ai (LA j i k l) ?_);unfold jx;simp only;rw[if_neg d,if_neg f,m]
end Go.i9
end
