/-
  Parts of the proof: Pm6, Pm7, Pm8, Pm9, Pm10, Pm11, Pm12, Pl13, Th2, Pl16, Pl18, Th3, Pl20, Pl21, Pl22, Pl23, Pl24, Pl25, Pl26, Pl27, Pl29, Pl30, Pl32, Pl36, Pl40, Pl41, Pl42, Pl43, Pm13, Pl46, Pl47, Pl48, Pl50, Pl51, Pl54, Pm14, Pm15, Pm16, Pm17, Pm18, Pm19, Pm20, Pm21, Pm23, Pm24, Pm25, Pm26, Pm27, Pm28, Pm29, Pm30, Pm32, Pm33, Pm36, Pm37, Pm38, Pm39, Pm40, Pm41, Pm42, Pm43, Pm44, Pm45: the framework (Fw), pure forms (Dn), plain laws (Pl, Th), calls of functions (Ok).
-/
import Derived.KernelRfl
import Derived.Test.YtkhcdgkdpjahpaaGreatDoorB378cea85

set_option linter.all false
noncomputable section
namespace Go.hT
variable{a b h v:Nat}{c m n u:ab1}{d:Nat->Nat->abV}{e q:Int}{g:c7}{i:Nat->Nat->Nat->Int}{k:Nat->Int}{l:Nat->Nat->Bool}{p:Type}{r:bF}{s:Nat->Nat}{t:List bF}{w:Nat->Prop}{x:c5}{y:abX}{z:List (Int×di)}
def fF (a b:bF):Prop:=a.2.1<b.2.1\/(a.2.1=b.2.1/\a.1<b.1)
theorem s6:r∈hx c m e b a↔∃d,d<a/\r=(c.getD (b+d) 0,e,m.getD (b+d) 0,()):=by
 induction a with
 |zero=>simp[hx]
 |succ a j=>
  simp only[hx,eH,j,eS];constructor
  ·rintro(⟨d,i,f⟩|h)
   ·exact⟨d,U,f⟩
   ·exact⟨a,U,h⟩
  ·rintro⟨d,i,f⟩;rcases bb d a with g|g
   ·exact .inl ⟨d,g,f⟩
   ·obtain rfl:d=a:=U;exact .inr f
theorem TJ (g:∀f d,f<d->d<a->c.getD (b+f) 0<c.getD (b+d) 0):(hx c m e b a).Pairwise fF:=by
 induction a with
 |zero=>exact List.Pairwise.nil
 |succ a l=>
  refine List.pairwise_append.2 ⟨l λf d h p=>g f d h U,List.pairwise_singleton _ _,?_⟩;intro n i o j;obtain⟨d,k,rfl⟩:=s6.1 i;rw[eS.1 j];exact .inr ⟨rfl,g d a k U⟩
theorem xT:r∈bQ c m n a↔∃b,b<a/\r∈hx m n (b:Int) (c.getD b 0).toNat ((c.getD (b+1) 0).toNat-(c.getD b 0).toNat):=by
 induction a with
 |zero=>simp[bQ]
 |succ a h=>
  simp only[bQ,eH,h];constructor
  ·rintro(⟨b,g,d⟩|f)
   ·exact⟨b,U,d⟩
   ·exact⟨a,U,f⟩
  ·rintro⟨b,g,d⟩;rcases bb b a with e|e
   ·exact .inl ⟨b,e,d⟩
   ·obtain rfl:b=a:=U;exact .inr d
theorem qQ (i:et b a c m n):∀d,d<=a->(bQ c m n d).Pairwise fF:=by
 intro d
 induction d with
 |zero=>intro _;exact List.Pairwise.nil
 |succ d q=>
  intro p;have C:=i.pos d U;have D:=i.pos (d+1) p;refine List.pairwise_append.2 ⟨q U,TJ ?_,?_⟩
  ·intro f g v w;have s:∀e,f+e<(c.getD (d+1) 0).toNat-(c.getD d 0).toNat->0<e->m.getD ((c.getD d 0).toNat+f) 0<m.getD ((c.getD d 0).toNat+(f+e)) 0:=by
    intro e
    induction e with
    |zero=>intro _ y;omega
    |succ e r=>
     intro x _;have k:=i.asc d ((c.getD d 0).toNat+(f+(e+1))) U U U;rw[(U:(c.getD d 0).toNat+(f+(e+1))-1=(c.getD d 0).toNat+(f+e))] at k;rcases g7 e with h|h
     ·subst h;exact k
     ·have:=r U h;omega
   have:=s (g-f) U U;rwa[(U:f+(g-f)=g)] at this
  ·intro t j u o;obtain⟨l,z,j⟩:=xT.1 j;obtain⟨g,A,rfl⟩:=s6.1 j;obtain⟨E,B,rfl⟩:=s6.1 o;exact .inl (by show(l:Int)<(d:Int);omega)
theorem YU (a b:Int):zq ([a,b],())=some (if a≠0 then a else b,()):=by
 unfold zq;refine ae.eq_iff.1 ?_;dsimp only;refine ae.aW (P:=λf=>match f with|.inl _=>a=0/\b=0|.inr k=>k=(if a≠0 then a else b,())) ?_ ?_
 ·refine ae.steps 2 (λd l=>l=((d:Int),())/\(1<=d->a=0)/\(2<=d->b=0)) ⟨rfl,λh=>by omega,λh=>by omega⟩ ?_ ?_
  ·rintro d _ m ⟨rfl,g,i⟩;rcases(U:d=0\/d=1) with rfl|rfl
   ·show ae (bif a !=0 then _ else _) _;rw[dr];by_cases c:a=0
    ·rw[az c];exact ae.af.2 ⟨rfl,λ_=>c,λh=>by omega⟩
    ·rw[ay c];refine ae.af.2 ?_;rw[if_pos c]
   ·show ae (bif b !=0 then _ else _) _;have j:=g aa;rw[dr];by_cases c:b=0
    ·rw[az c];exact ae.af.2 ⟨rfl,λ_=>j,λ_=>c⟩
    ·rw[ay c];refine ae.af.2 ?_;rw[if_neg (by simpa using j)]
  ·rintro _ ⟨rfl,g,i⟩;exact ae.af.2 ⟨g aa,i aa⟩
 ·rintro(f|f) e
  ·obtain⟨rfl,rfl⟩:a=0/\b=0:=e;exact ae.af.2 rfl
  ·have e:f=_:=e;rw[e];exact ae.af.2 rfl
theorem TA {a:bF} (b:fF r a):z9 (a,r,())=some (1,()):=by
 unfold z9;refine au (Dq _ _) (au (Dq _ _) (au (YU _ _) ?_));dsimp only;congr 2;unfold eO;rcases b with b|⟨d,c⟩
 ·rw[if_neg (U:¬a.2.1<r.2.1),if_pos b];rfl
 ·rw[if_neg (U:¬a.2.1<r.2.1),if_neg (U:¬r.2.1<a.2.1),if_neg ac,if_neg (U:¬a.1<r.1),if_pos c]
theorem U4 (j:t.length<=1000) (f:t.Pairwise fF) {lo:Nat} (g:lo<=a) (h:a<=t.length):wY (t,(lo:Int),(a:Int),(),())=some (t,()):=by
 unfold wY;refine ae.eq_iff.1 ?_;dsimp only;refine ae.aW (P:=λd=>d=(t,())) ?_ (by rintro _ rfl;exact ae.af.2 rfl);refine ae.steps (a-lo-1) (λb c=>c=(((lo+1+b:Nat):Int),t,())) (by rw[bA U]) ?_ ?_
 ·rintro b _ i rfl;dsimp only;rw[bn (az (U:((lo+1+b:Nat):Int)<(a:Int)))];refine ae.aW (P:=λd=>d=(t,())) ?_ (by rintro _ rfl;refine ae.af.2 ?_;dsimp only;rw[bA U];rfl);refine ae.steps 0 (λ_ c=>c=(((lo+1+b:Nat):Int),t,())) rfl (λb c a=>by omega) ?_;rintro _ rfl;dsimp only;refine ae.bs (y:=.inr (.inr (t,()))) ?_ (ae.af.2 rfl);rw[az (U:((lo+1+b:Nat):Int)>(lo:Int))];have aj:aw (((lo+1+b:Nat):Int)-1)=((lo+b:Nat):Int):=(by rw[bp U U];omega);rw[beq_self_eq_true,cond_true,lr U,aj,lr U];have e:fF t[lo+b] t[lo+1+b]:=List.pairwise_iff_getElem.1 f _ _ U U U;exact au (TA e) rfl
 ·rintro _ rfl;dsimp only;rw[bm (ay (U:¬((lo+1+(a-lo-1):Nat):Int)<(a:Int)))];exact ae.af.2 rfl
theorem aay (h:t.length<=19) (f:t.Pairwise fF):z8 (t,())=some (t,()):=by
 unfold z8;refine au (y:=(t,())) ?_ ?_
 ·unfold Dz;have c:((bS (([]:List bF).length+t.length)).bind λ_=>some (([]++t:List bF),()))=some (t,()):=by
   rw[dZ (by simp;omega)];rfl
  show mM t.length (some ([],())) ((bS (([]:List bF).length+t.length)).bind λ_=>some (([]++t:List bF),()))=_;unfold mM;rw[c];split
  ·rename_i d;obtain rfl:=k2 d;rw[if_pos rfl]
  ·rfl
 refine au (y:=(t,())) ?_ rfl;unfold DF;refine au (y:=(t,())) ?_ rfl;unfold DG;refine ae.eq_iff.1 ?_;dsimp only;refine ae.aW (P:=λb=>b=(0,t,())) ?_ ?_
 ·refine ae.steps 0 (λ_ a=>a=(0,20,t,())) rfl (λg a e=>by omega) ?_;rintro _ rfl;dsimp only;rw[bm (ay (show¬((20:Int)<=ax t) by simp only[a7];omega))];exact ae.af.2 rfl
 rintro _ rfl;refine ae.bs (U4 (lo:=0) U f (Nat.zero_le _) (Nat.le_refl _)) ?_;refine ae.aW (P:=λb=>b=(t,())) ?_ (by rintro _ rfl;exact ae.af.2 rfl);refine ae.steps 0 (λ_ a=>a=(20,t,())) rfl (λg a e=>by omega) ?_;rintro _ rfl;dsimp only;rw[bm (ay (show¬((20:Int)<ax t) by simp only[a7];omega))];exact ae.af.2 rfl
def hY (E:List bF) (a:Int):Nat:=(E.filter λb=>decide (b.2.1=a)).length
def fi (E:List bF) (a:Int):Nat:=(E.filter λb=>decide (b.2.1<a)).length
def pI (d b:Nat) (E:List bF):bP:=((d:Int),(b:Int),aq (b+1) (λc=>(fi E (c:Int):Int)),E.map (λa=>a.1),E.map (λa=>a.2.2.1),())
theorem Dl (E:List bF) (a:Int):fi E (a+1)=fi E a+hY E a:=by
 unfold fi hY
 induction E with
 |nil=>rfl
 |cons b E d=>
  simp only[iD];rcases Int.lt_trichotomy b.2.1 a with c|c|c
  ·rw[if_pos (by simpa using(by omega:b.2.1<a+1)),if_pos (by simpa using c),if_neg (by simpa using(by omega:¬b.2.1=a))];simp only[h5];omega
  ·rw[if_pos (by simpa using(by omega:b.2.1<a+1)),if_neg (by simpa using(by omega:¬b.2.1<a)),if_pos (by simpa using c)];simp only[h5];omega
  ·rw[if_neg (by simpa using(by omega:¬b.2.1<a+1)),if_neg (by simpa using(by omega:¬b.2.1<a)),if_neg (by simpa using(by omega:¬b.2.1=a))];omega
def jl (c b:Nat) (E:List bF):Prop:=∀a∈E,0<=a.1/\a.1<(c:Int)/\0<=a.2.1/\a.2.1<(b:Int)
theorem Ik (E:List bF) (c:bF) (a:Int):hY (E++[c]) a=hY E a+if c.2.1=a then 1 else 0:=by
 unfold hY;rw[iX,nP];congr 1;by_cases b:c.2.1=a
 ·rw[if_pos b,oX (by simpa using b)];rfl
 ·rw[if_neg b,oW (by simpa using b)];rfl
theorem Sy {E:List bF} (C:b<=200) (B:a<=200) (n:E.length<=19) (y:E.Pairwise fF) (t:jl b a E):z6 ((b:Int),(a:Int),E,())=some (pI b a E,()):=by
 unfold z6;refine ae.eq_iff.1 ?_;dsimp only;rw[bA U];refine ae.bs (gT U) (ae.bs (aay n y) ?_);dsimp only;refine ae.aW (P:=λr=>r=(((0:Int),((0:Int),([],([],([],()))))),((b:Int),(a:Int),aq (a+1) (λc=>if c=0 then(0:Int) else(hY E ((c:Int)-1):Int)),E.map (λe=>e.1),E.map (λe=>e.2.2.1),()),())) ?_ ?_
 ·refine ae.steps E.length (λd s=>s=((d:Int),((0:Int),((0:Int),([],([],([],()))))),((b:Int),(a:Int),aq (a+1) (λc=>if c=0 then(0:Int) else(hY (E.take d) ((c:Int)-1):Int)),(E.take d).map (λe=>e.1),(E.take d).map (λe=>e.2.2.1),()),E,())) ?_ ?_ ?_
  ·have j:(aq (a+1) λ_=>(0:Int))=aq (a+1) λc=>if c=0 then(0:Int) else(hY (E.take 0) ((c:Int)-1):Int):=bR λc l=>by split<;>rfl
   rw[he,j];rfl
  ·rintro d _ k rfl;have q:=t E[d] (List.getElem_mem k);obtain⟨i,w⟩:=Int.eq_ofNat_of_zero_le q.2.2.1;dsimp only;rw[bn (az (show(d:Int)<ax E by simp only[a7];omega)),lr k];have aj:aZ E[d].2.1=((i+1:Nat):Int):=(by rw[w,bA U]);have p:E.take (d+1)=E.take d++[E[d]]:=(by rw[List.take_add_one,List.getElem?_eq_getElem k];rfl);rw[dZ (by simp;omega),Option.bind_some,dZ (by simp;omega),Option.bind_some,aj];refine ae.bs (dy (by rw[bi];omega)) (ae.bs (dw U) (ae.bs (dy (by rw[bi];omega)) ?_));rw[dw U];refine ae.af.2 ?_;have o:(aq (a+1) (λc=>if c=0 then(0:Int) else(hY (E.take d) ((c:Int)-1):Int))).set (i+1) (aZ (if i+1=0 then(0:Int) else(hY (E.take d) (((i+1:Nat):Int)-1):Int)))=aq (a+1) (λc=>if c=0 then(0:Int) else(hY (E.take (d+1)) ((c:Int)-1):Int)):=by
    rw[fA];refine bR λc l=>?_;have m:∀g,hY (E.take d) g<=19:=λg=>dn (h6 _ _) (by rw[eC];omega);by_cases f:c=i+1
    ·subst f;rw[ew,if_neg U,if_neg U,bA (by have:=m (((i+1:Nat):Int)-1);omega),p,Ik,if_pos U]
    ·rw[eG _ _ f];by_cases h:c=0
     ·rw[if_pos h,if_pos h]
     ·rw[if_neg h,if_neg h,p,Ik,if_neg U,jM]
   dsimp only[Option.map_some];rw[bA U,o,p,List.map_append,List.map_append];rfl
  ·rintro _ rfl;dsimp only;rw[bm (ay (show¬((E.length:Int)<ax E) by simp only[a7];omega)),List.take_of_length_le (Nat.le_refl _)];exact ae.af.2 rfl
 ·rintro _ rfl;dsimp only;refine ae.aW (P:=λr=>r=(((0:Int),((0:Int),([],([],([],()))))),pI b a E,())) ?_ (by rintro _ rfl;exact ae.af.2 rfl);have x:∀g,fi E g<=19:=λg=>Nat.le_trans (List.length_filter_le _ _) n;have m:∀g,hY E g<=19:=λg=>Nat.le_trans (List.length_filter_le _ _) n;have v:fi E 0=0:=by
   unfold fi;rw[vX.2]
   ·rfl
   ·intro e q;have:=t e q;simpa using this.2.2.1
  refine ae.steps a (λd s=>s=((d:Int),((0:Int),((0:Int),([],([],([],()))))),((b:Int),(a:Int),aq (a+1) (λc=>if c<=d then(fi E (c:Int):Int) else(hY E ((c:Int)-1):Int)),E.map (λe=>e.1),E.map (λe=>e.2.2.1),()),())) ?_ ?_ ?_
  ·have j:(aq (a+1) λc=>if c=0 then(0:Int) else(hY E ((c:Int)-1):Int))=aq (a+1) (λc=>if c<=0 then(fi E (c:Int):Int) else(hY E ((c:Int)-1):Int)):=bR λc l=>by
    by_cases f:c=0
    ·subst f;rw[if_pos rfl,if_pos (aY _)];show(0:Int)=((fi E 0:Nat):Int);rw[v];rfl
    ·rw[if_neg f,if_neg U]
   rw[j];rfl
  ·rintro d _ k rfl;dsimp only;rw[bn (az (U:(d:Int)<(a:Int))),bA U,lr (by rw[bi];omega),lr (by rw[bi];omega),gh,gh];refine ae.bs (dy (by rw[bi];omega)) ?_;rw[dw U];refine ae.af.2 ?_;have o:(aq (a+1) (λc=>if c<=d then(fi E (c:Int):Int) else(hY E ((c:Int)-1):Int))).set (d+1) (aw ((if d+1<=d then(fi E ((d+1:Nat):Int):Int) else(hY E (((d+1:Nat):Int)-1):Int))+(if d<=d then(fi E (d:Int):Int) else(hY E ((d:Int)-1):Int))))=aq (a+1) (λc=>if c<=d+1 then(fi E (c:Int):Int) else(hY E ((c:Int)-1):Int)):=by
    rw[fA];refine bR λc l=>?_;by_cases f:c=d+1
    ·subst f;have u:=Dl E (d:Int);have z:=m (d:Int);have A:=x (d:Int);rw[ew,if_neg U,if_pos (aY _),if_pos (aY _),(U:(((d+1:Nat):Int)-1)=(d:Int)),bp U U,(U:((d+1:Nat):Int)=(d:Int)+1),u];omega
    ·rw[eG _ _ f];by_cases h:c<=d
     ·rw[if_pos h,if_pos U]
     ·rw[if_neg h,if_neg U]
   dsimp only[Option.map_some];rw[o]
  ·rintro _ rfl;dsimp only;rw[bm (ay (U:¬((a:Int)<(a:Int))))];have j:aq (a+1) (λc=>if c<=a then(fi E (c:Int):Int) else(hY E ((c:Int)-1):Int))=aq (a+1) (λc=>(fi E (c:Int):Int)):=bR λc l=>(by rw[if_pos U]);rw[j];exact ae.af.2 rfl
def e6 (b c:Int) (a:bF):Bool:=decide (a.2.1<b)||(decide (a.2.1=b)&&decide (a.1<c))
theorem HN {a:bF} (b:fF r a) (f:e6 q e a=true):e6 q e r=true:=by
 unfold e6 at*;simp only[fy,bg,decide_eq_true_eq] at*;rcases b with b|⟨c,d⟩
 ·omega
 ·omega
theorem IY {j i:Int}:∀{E:List bF},E.Pairwise fF->E.filter (e6 j i)=E.take (E.filter (e6 j i)).length
 |[],_=>rfl
 |x::E,b=>by
  obtain⟨c,d⟩:=lF.1 b;by_cases a:e6 j i x=true
  ·rw[oX a,h5,List.take_succ_cons];exact congrArg _ (IY d)
  ·have e:E.filter (e6 j i)=[]:=by
    refine vX.2 λh g f=>?_;exact a (HN (c h g) f)
   rw[oW a,e];rfl
theorem Db {E:List bF} (d:jl b a E):E.filter (e6 0 0)=[]:=by refine vX.2 λf e c=>?_;have:=d f e;unfold e6 at c;simp only[fy,bg,decide_eq_true_eq] at c;omega
theorem Sg {E:List bF} (d:jl a b E) (c:Int):E.filter (e6 c (a:Int))=E.filter (e6 (c+1) 0):=by refine rT λf e=>?_;have:=d f e;unfold e6;rw[me];simp only[fy,bg,decide_eq_true_eq];omega
theorem y7 {E:List bF} (d:jl b a E) (c:Int):(E.filter (e6 c 0)).length=fi E c:=by unfold fi;congr 1;refine rT λf e=>?_;have:=d f e;unfold e6;rw[me];simp only[fy,bg,decide_eq_true_eq];omega
theorem Dc {j i:Int} {E:List bF} (g:E.Pairwise fF) (l:a<E.length):e6 j i E[a]=true↔a<(E.filter (e6 j i)).length:=by
 constructor
 ·intro b;have k:∀h∈E.take (a+1),e6 j i h=true:=by
   intro h m;obtain⟨e,n,rfl⟩:=List.mem_take_iff_getElem.1 m;rcases bb e a with f|f
   ·exact HN (gx.1 g e a U l f) b
   ·obtain rfl:e=a:=U;exact b
  have c:(E.take (a+1)).filter (e6 j i)=E.take (a+1):=mm.2 k;have d:=(List.Sublist.filter (e6 j i) (List.take_sublist (a+1) E)).length_le;rw[c,eC] at d;omega
 ·intro b;have c:=IY (j:=j) (i:=i) g;have d:E[a]∈E.filter (e6 j i):=by
   rw[c];exact List.mem_take_iff_getElem.2 ⟨a,U,rfl⟩
  exact(fc.1 d).2
theorem Sh {j i:Int} {E:List bF} (m:E.Pairwise fF):(∃c:(E.filter (e6 j i)).length<E.length,E[(E.filter (e6 j i)).length].1=i/\E[(E.filter (e6 j i)).length].2.1=j/\(E.filter (e6 j (i+1))).length=(E.filter (e6 j i)).length+1)\/((∀b,(c:b<E.length)->¬(E[b].1=i/\E[b].2.1=j))/\(E.filter (e6 j (i+1))).length=(E.filter (e6 j i)).length):=by
 have q:∀g:bF,e6 j (i+1) g=true↔e6 j i g=true\/(g.1=i/\g.2.1=j):=λg=>(by unfold e6;simp only[fy,bg,decide_eq_true_eq];omega);have z:∀g:bF,g.1=i/\g.2.1=j->¬e6 j i g=true:=λg h c=>(by unfold e6 at c;simp only[fy,bg,decide_eq_true_eq] at c;omega);generalize t:(E.filter (e6 j i)).length=f;generalize u:(E.filter (e6 j (i+1))).length=k;have n:∀a,(d:a<E.length)->(e6 j i E[a]=true↔a<f):=λa d=>(by rw[<-t];exact Dc m d);have o:∀a,(d:a<E.length)->(e6 j (i+1) E[a]=true↔a<k):=λa d=>(by rw[<-u];exact Dc m d);have F:f<=E.length:=(by rw[<-t];exact h6 _ _);have G:k<=E.length:=(by rw[<-u];exact h6 _ _);by_cases p:∃b,∃c:b<E.length,E[b].1=i/\E[b].2.1=j
 ·obtain⟨b,l,h⟩:=p;have A:¬b<f:=λc=>z _ h ((n b l).2 c);have B:b<k:=(o b l).1 ((q _).2 (.inr h));have r:∀a,(d:a<E.length)->f<=a->a<k->a=b:=λa d C w=>by
   have x:=(q _).1 ((o a d).2 w);have D:E[a].1=i/\E[a].2.1=j:=x.resolve_left λc=>(by have:=(n a d).1 c;omega);rcases k5 a b with e|e|e
   ·have:=gx.1 m a b d l e;rcases this with c|⟨c,v⟩<;>omega
   ·exact e
   ·have:=gx.1 m b a l d e;rcases this with c|⟨c,v⟩<;>omega
  have y:f=b:=r f U (aY _) U;subst y;refine .inl ⟨l,h.1,h.2,?_⟩;rcases bb (f+1) k with e|e
  ·have:=r (f+1) U U e;omega
  ·omega
 ·refine .inr ⟨λb l h=>p ⟨b,l,h⟩,?_⟩;have s:∀a,a<E.length->(a<k↔a<f):=λa d=>by
   rw[<-n a d,<-o a d,q];exact⟨λc=>c.resolve_right λh=>p ⟨a,d,h⟩,.inl⟩
  rcases k5 k f with e|e|e
  ·have:=(s k U).2 e;omega
  ·exact e
  ·have:=(s f U).1 e;omega
def mQ (b:Nat) (a:bF):Nat:=a.2.1.toNat*b+a.1.toNat
theorem Zj {E:List bF} (d:jl a b E) (e:r∈E):mQ a r<a*b:=by have f:=d r e;unfold mQ;have c:(r.2.1.toNat+1)*a<=b*a:=ga _ U;rw[eD,g0] at c;rw[im a b];omega
theorem Zi {rows:Nat} {a b:Int×Int} (f:0<=a.1/\a.1<(rows:Int)/\0<=a.2) (g:0<=b.1/\b.1<(rows:Int)/\0<=b.2) (c:a.2.toNat*rows+a.1.toNat=b.2.toNat*rows+b.1.toNat):a.1=b.1/\a.2=b.2:=by have d:(a.2.toNat*rows+a.1.toNat)/rows=a.2.toNat:=(by rw[im,Nat.mul_add_div U,Nat.div_eq_of_lt U,jM]);have e:(b.2.toNat*rows+b.1.toNat)/rows=b.2.toNat:=(by rw[im,Nat.mul_add_div U,Nat.div_eq_of_lt U,jM]);rw[c,e] at d;rw[d] at c;omega
def mA (b:Nat) (E:List bF):Nat->Nat->Int
 |0,_=>0
 |i+1,a=>if a=mQ b (E.getD i (0,0,0,())) then((i+1:Nat):Int) else mA b E i a
theorem H3 (d:Nat) (E:List bF) (c:Nat):∀i,(mA d E i c=0/\∀a,a<i->mQ d (E.getD a (0,0,0,()))≠c)\/∃a,a<i/\mQ d (E.getD a (0,0,0,()))=c/\mA d E i c=((a+1:Nat):Int)
 |0=>.inl ⟨rfl,λa b=>absurd b U⟩
 |i+1=>by
  unfold mA;by_cases e:c=mQ d (E.getD i (0,0,0,()))
  ·exact .inr ⟨i,U,e.symm,if_pos e⟩
  ·rw[if_neg e];rcases H3 d E c i with⟨g,f⟩|⟨a,g,f,h⟩
   ·refine .inl ⟨g,λa j=>?_⟩;rcases bb a i with b|b
    ·exact f a b
    ·obtain rfl:a=i:=U;exactλb=>e b.symm
   ·exact .inr ⟨a,U,f,h⟩
theorem SG (b:Nat) (E:List bF) (a:Nat):bZ (mA b E a) (mQ b (E.getD a (0,0,0,()))) ((a+1:Nat):Int)=mA b E (a+1):=by funext p;unfold bZ;rw[mA]
theorem LL (e:b<=200) (d:a<=200) (g:h<=200):aw (aw ((a:Int)*(b:Int))+(h:Int))=((a*b+h:Nat):Int):=by have f:a*b<=200*200:=jN d e;have c:(a:Int)*(b:Int)=((a*b:Nat):Int):=(by rw[kf]);rw[c,yz U,<-Int.natCast_add,yz U]
theorem Ek {E:List bF} (b:a<E.length):E.getD a (0,0,0,())=E[a]:=by rw[iF,be b];rfl
def ij (E:List bF) (b a:Int):Nat:=(E.filter (e6 b a)).length
theorem LJ (E:List bF) (b a:Int):ij E b a<=E.length:=h6 _ _
def nz (e d:Nat) (E:List bF) (a:Nat) (c:Nat):bP:=((e:Int),(d:Int),aq (a+1) (λa=>(fi E (a:Int):Int)),(E.take c).map (λb=>b.1),(E.take c).map (λb=>b.2.2.1),())
theorem Y1 {E:List bF} (w:h<=200) (J:v<=200) (ab:E.length<=10000) (x:E.Pairwise fF) (g:jl h v E):AH ((h:Int),(v:Int),E,())=some (pI h v E,()):=by
 unfold AH;refine ae.eq_iff.1 ?_;dsimp only;have ad:h*v<=200*200:=Nat.mul_le_mul w J;have G:aw ((h:Int)*(v:Int))=((h*v:Nat):Int):=(by rw[<-Int.natCast_mul,yz U]);rw[G];refine ae.bs (gT U) ?_;have F:fi E 0=0:=(by rw[<-y7 g,Db g];rfl);refine ae.aW (P:=λq=>q=(((0:Int),((0:Int),([],([],([],()))))),nz h v E 0 0,aq (h*v) (mA h E E.length),())) ?_ ?_
 ·refine ae.steps E.length (λd r=>r=((d:Int),((0:Int),((0:Int),([],([],([],()))))),nz h v E 0 0,aq (h*v) (mA h E d),())) ?_ ?_ ?_
  ·have:nz h v E 0 0=((h:Int),((v:Int),([0],(([]:aX),(([]:aX),()))))):=by
    unfold nz;rw[n9,IV];show(_,_,[((fi E 0:Nat):Int)],_)=_;rw[F];rfl
   rw[he,this];rfl
  ·rintro d _ n rfl;have k:=g E[d] (List.getElem_mem n);obtain⟨Y,I⟩:=Int.eq_ofNat_of_zero_le k.1;obtain⟨Z,K⟩:=Int.eq_ofNat_of_zero_le k.2.2.1;dsimp only;rw[bn (az (show(d:Int)<ax E by simp only[a7];omega))];refine ae.bs (bX n) (ae.bs (bX n) ?_);have u:aw (aw (E[d].2.1*(h:Int))+E[d].1)=((mQ h E[d]:Nat):Int):=by
    unfold mQ;rw[I,K,LL w U U,dc,dc]
   have Q:=Zj g (bI n);rw[u,nK (by rw[bi];exact Q),fA,bA U,<-Ek n,SG];exact ae.af.2 rfl
  ·rintro _ rfl;dsimp only;rw[bm (ay (show¬((E.length:Int)<ax E) by simp only[a7];omega))];exact ae.af.2 rfl
 ·rintro _ rfl;dsimp only;refine ae.aW (P:=λq=>q=(((0:Int),((0:Int),([],([],([],()))))),pI h v E,())) ?_ (by rintro _ rfl;exact ae.af.2 rfl);refine ae.steps v (λc r=>r=((c:Int),((0:Int),((0:Int),([],([],([],()))))),nz h v E c (ij E (c:Int) 0),aq (h*v) (mA h E E.length),())) ?_ ?_ ?_
  ·have:ij E ((0:Nat):Int) 0=0:=by
    unfold ij;rw[show((0:Nat):Int)=0 from rfl,Db g];rfl
   rw[this];rfl
  ·rintro c _ L rfl;dsimp only;rw[bn (az (U:(c:Int)<(v:Int)))];refine ae.aW (P:=λq=>q=(((0:Int),((0:Int),([],([],([],()))))),nz h v E c (ij E (c:Int) (h:Int)),aq (h*v) (mA h E E.length),())) ?_ ?_
   ·refine ae.steps h (λd r=>r=((d:Int),((0:Int),((0:Int),([],([],([],()))))),nz h v E c (ij E (c:Int) (d:Int)),aq (h*v) (mA h E E.length),())) rfl ?_ ?_
    ·rintro d _ n rfl;dsimp only;rw[bn (az (U:(d:Int)<(h:Int))),LL w U U];have u:c*h+d<h*v:=by
      have f:(c+1)*h<=v*h:=ga _ L;rw[eD,g0] at f;rw[im h v];omega
     rw[lr (by rw[bi];exact u),gh];have C:=LJ E (c:Int) (d:Int);have t:=Sh (j:=(c:Int)) (i:=(d:Int)) x;change(∃s:ij E (c:Int) (d:Int)<E.length,E[ij E (c:Int) (d:Int)].1=(d:Int)/\E[ij E (c:Int) (d:Int)].2.1=(c:Int)/\ij E (c:Int) ((d:Int)+1)=ij E (c:Int) (d:Int)+1)\/((∀y,(s:y<E.length)->¬(E[y].1=(d:Int)/\E[y].2.1=(c:Int)))/\ij E (c:Int) ((d:Int)+1)=ij E (c:Int) (d:Int)) at t;rw[show(d:Int)+1=((d+1:Nat):Int) from by omega] at t;generalize ij E (c:Int) (d:Int)=p at*;rw[bA U];have M:∀e,(s:e<E.length)->mQ h E[e]=c*h+d->E[e].1=(d:Int)/\E[e].2.1=(c:Int):=(by intro e s R;have k:=g E[e] (List.getElem_mem s);exact Zi (rows:=h) (a:=(E[e].1,E[e].2.1)) (b:=((d:Int),(c:Int))) ⟨k.1,k.2.1,k.2.2.1⟩ ⟨U,by dsimp only;omega,by dsimp only;omega⟩ (by simpa[mQ] using R));rcases H3 h E (c*h+d) E.length with⟨W,X⟩|⟨e,l,D,T⟩
     ·rw[W];rcases t with⟨f,m,A,B⟩|⟨f,m⟩
      ·refine absurd ?_ (X p f);rw[Ek f];unfold mQ;rw[m,A,dc,dc]
      ·rw[bm (ay U)];refine ae.bs rfl ?_;rw[m];exact ae.af.2 rfl
     ·rw[T];rw[Ek l] at D;obtain⟨ar,V⟩:=M e l D;rcases t with⟨f,m,A,B⟩|⟨f,m⟩
      ·have N:e=p:=by
        rcases k5 e p with o|o|o
        ·have:=gx.1 x e p l f o;unfold fF at this;omega
        ·exact o
        ·have:=gx.1 x p e f l o;unfold fF at this;omega
       subst N;rw[bn (az U),(U:((e+1:Nat):Int)-1=(e:Int)),yz U];unfold nz;dsimp only;rw[dZ (by simp;omega),Option.bind_some];have S:E.take (e+1)=E.take e++[E[e]]:=(by rw[List.take_add_one,List.getElem?_eq_getElem l];rfl);rw[bX l,Option.bind_some,dZ (by simp;omega),Option.bind_some,Option.bind_some];rw[B,S,List.map_append,List.map_append,<-m];exact ae.af.2 rfl
      ·exact absurd ⟨ar,V⟩ (f e l)
    ·rintro _ rfl;dsimp only;rw[bm (ay (U:¬((h:Int)<(h:Int))))];exact ae.af.2 rfl
   ·rintro _ rfl;have C:=LJ E (c:Int) (h:Int);have aj:ij E (c:Int) (h:Int)=ij E ((c+1:Nat):Int) 0:=by
     unfold ij;rw[Sg g,(U:((c+1:Nat):Int)=(c:Int)+1)]
    have H:ij E ((c+1:Nat):Int) 0=fi E ((c+1:Nat):Int):=y7 g _;rw[aj] at C|-;unfold nz;dsimp only;have O:ax ((E.take (ij E ((c+1:Nat):Int) 0)).map λz=>z.1)=(fi E ((c+1:Nat):Int):Int):=(by rw[a7,List.length_map,List.length_take,<-H];omega);rw[dZ (by rw[bi];simp;omega),Option.bind_some,O,n9 (c+1),bA U];exact ae.af.2 rfl
  ·rintro _ rfl;dsimp only;rw[bm (ay (U:¬((v:Int)<(v:Int))))];have aj:ij E (v:Int) 0=E.length:=by
    unfold ij;rw[mm.2];intro z k;have:=g z k;unfold e6;simp only[fy,bg,decide_eq_true_eq];omega
   have:nz h v E v (ij E (v:Int) 0)=pI h v E:=(by unfold nz pI;rw[aj,dK (aY _)]);rw[this];exact ae.af.2 rfl
theorem ud {E:List bF} (g:E.Pairwise fF) (e:jl h b E) (f:a<E.length) (c:Int):E[a].2.1<c↔a<fi E c:=by have d:=Dc (j:=c) (i:=0) g f;rw[y7 e] at d;rw[<-d];have:=e E[a] (bI f);unfold e6;simp only[fy,bg,decide_eq_true_eq];omega
theorem Ic {E:List bF} (c:jl b a E):fi E 0=0:=by rw[<-y7 c,Db c];rfl
theorem Ib {E:List bF} (c:jl b a E):fi E (a:Int)=E.length:=by unfold fi;rw[mm.2];intro e d;have:=c e d;simpa using this.2.2.2
theorem Uo (c:a<b):(aq b k).getD a 0=k a:=by rw[iF,qT c];rfl
theorem Bj {E:List bF} (b:a<E.length):(E.map λc=>c.1).getD a 0=E[a].1:=by rw[iF,eN,be b];rfl
theorem Ji {E:List bF} (b:a<E.length):(E.map λc=>c.2.2.1).getD a 0=E[a].2.2.1:=by rw[iF,eN,be b];rfl
def tu (a:Nat) (E:List bF):ab1:=aq (a+1) (λb=>(fi E (b:Int):Int))
theorem rz {E:List bF} (c:a<=b):(tu b E).getD a 0=(fi E (a:Int):Int):=Uo U
theorem Dk (E:List bF) (a:Int):fi E a<=E.length:=h6 _ _
theorem aaO {E:List bF} (g:E.Pairwise fF) (e:jl b a E):et b a (tu a E) (E.map λj=>j.1) (E.map λj=>j.2.2.1) where
 len:=bi _ _
 first:=by rw[rz (bN _)];show((fi E 0:Nat):Int)=0;rw[Ic e];rfl
 mono:=λc k=>by rw[rz U,rz U,show((c+1:Nat):Int)=(c:Int)+1 from by omega,Dl];omega
 last:=by rw[rz (aY _),Ib e,gw]
 val:=by simp
 rng:=λc d k h i=>by rw[rz U] at h i;have f:d<E.length:=(by have:=Dk E ((c+1:Nat):Int);omega);rw[Bj f];have:=e E[d] (bI f);exact⟨this.1,this.2.1⟩
 asc:=λc d k h i=>by rw[rz U] at h i;have f:d<E.length:=(by have:=Dk E ((c+1:Nat):Int);omega);rw[Bj f,Bj U];have l:=ud g e f (c:Int);have m:=ud g e f ((c+1:Nat):Int);have n:=ud g e (U:d-1<E.length) (c:Int);have o:=ud g e (U:d-1<E.length) ((c+1:Nat):Int);have:=gx.1 g (d-1) d U f U;unfold fF at this;omega
theorem MG {rows fR:Nat} {E:List bF} (c:rows<=200) (b:fR<=200) (g:E.length<=10000) (e:∀a∈E,dX a.2.2.1):hq rows fR (tu fR E) (E.map λa=>a.1) (E.map λa=>a.2.2.1) where
 hr:=c
 hc:=b
 hi:=by simp;omega
 hs:=by unfold tu;rw[bi];omega
 hv:=by simp;omega
 hw:=λh d=>by obtain⟨a,f,rfl⟩:=bT.1 d;exact e a f
theorem DU (c f:ab1) (d:Int) (b a:Nat):hx c f d b a=aq a λe=>(c.getD (b+e) 0,d,f.getD (b+e) 0,()):=by
 induction a with
 |zero=>rfl
 |succ a g=>rw[hx,g,n9]
theorem TK {E:List bF} (l:E.Pairwise fF) (e:jl b a E):∀c,c<=a->bQ (tu a E) (E.map λg=>g.1) (E.map λg=>g.2.2.1) c=E.take (fi E (c:Int)):=by
 intro c
 induction c with
 |zero=>
  intro _;show[]=E.take (fi E 0);rw[Ic e];rfl
 |succ c q=>
  intro u;rw[bQ,q U,rz U,rz U,DU,dc,dc];have n:fi E ((c+1:Nat):Int)=fi E (c:Int)+hY E (c:Int):=(by rw[show((c+1:Nat):Int)=(c:Int)+1 from by omega,Dl]);have o:=Dk E ((c+1:Nat):Int);have h:∀d,(f:d<E.length)->fi E (c:Int)<=d->d<fi E ((c+1:Nat):Int)->E[d].2.1=(c:Int):=λd f k m=>(by have s:=ud l e f (c:Int);have t:=ud l e f ((c+1:Nat):Int);omega);rw[n] at h o|-;generalize fi E (c:Int)=i at*;generalize hY E (c:Int)=j at*;rw[nS,List.take_add];congr 1;have p:((E.drop i).take j).length=j:=(by rw[eC,kz];omega);refine List.ext_getElem (by rw[bi,p]) λr k m=>?_;rw[bi] at k;rw[gh,Bj U,Ji U,vY,List.getElem_drop,<-h (i+r) U U U]
theorem IL {E:List bF} (e:E.Pairwise fF) (d:jl b a E):bQ (tu a E) (E.map λc=>c.1) (E.map λc=>c.2.2.1) a=E:=by rw[TK e d a (aY _),Ib d,dK (aY _)]
theorem Ur {E:List bF} (c:∀b∈E,bK b.2.2.1≠2047):jK (E.map λb=>b.2.2.1):=by intro d a;rw[gw] at a;rw[Ji a];exact c _ (bI a)
theorem H5 {E:List bF} (f:E.Pairwise fF) (e:jl b a E) (d:∀c∈E,bK c.2.2.1≠2047):gq b a (tu a E) (E.map λc=>c.1) (E.map λc=>c.2.2.1)=0:=
 jU.2 ⟨aaO f e,Ur d⟩
theorem qP (e:et b a c m n):jl b a (bQ c m n a):=by intro l f;obtain⟨d,g,f⟩:=xT.1 f;obtain⟨h,i,rfl⟩:=s6.1 f;have j:=e.pos d U;have k:=e.pos (d+1) U;have:=e.rng d ((c.getD d 0).toNat+h) g U U;exact⟨this.1,this.2,by dsimp only;omega,by dsimp only;omega⟩
theorem sJ (e:et b a m n c) {g:Int->Prop} (i:∀k∈c,g k):∀h∈bQ m n c a,g h.2.2.1:=by intro h f;obtain⟨d,l,f⟩:=xT.1 f;obtain⟨j,o,rfl⟩:=s6.1 f;have r:=e.pos d U;have s:=e.pos (d+1) U;have p:=e.om (d+1) U;have q:=e.val;dsimp only;rw[jY (U:(m.getD d 0).toNat+j<c.length)];exact i _ (List.getElem_mem _)
theorem D4 (d:jK c):∀b∈c,bK b≠2047:=by intro b e;obtain⟨f,a,rfl⟩:=fH.1 e;have:=d f a;rwa[jY a] at this
def pF (a:bF):Bool:=decide (a.1>=a.2.1)
def eg (E:List bF):List bF:=E.filter pF
theorem q8 {E:List bF} (a:E.Pairwise fF):(eg E).Pairwise fF:=List.Pairwise.sublist List.filter_sublist a
theorem q7 {E:List bF} (c:jl b a E):jl b a (eg E):=λe d=>c e (fc.1 d).1
theorem Bx {E:List bF}:∀a∈eg E,a.2.1<=a.1:=λa b=>by have:=(fc.1 b).2;unfold pF at this;simpa using this
theorem Gi {b:p->Bool} {E:List p} (d:a<E.length):(E.take (a+1)).filter b=(E.take a).filter b++(if b E[a]=true then[E[a]] else[]):=by
 rw[jo,be d,iX];congr 1;show[E[a]].filter b=_;by_cases c:b E[a]=true
 ·rw[if_pos c,oX c];rfl
 ·rw[if_neg c,oW c];rfl
theorem E4:∀(a:ab0) (b:Nat),a.Pairwise (· < ·)->(∀x∈a,x<b)->a.length<=b
 |[],_,_,_=>bN _
 |x::a,b,i,d=>by
  obtain⟨c,j⟩:=lF.1 i;have p:=d x ac;have:=E4 (a.map λf=>f-(x+1)) (b-(x+1)) (by
   rw[qh];refine List.Pairwise.imp_of_mem ?_ j;intro h m k o n;have:=c h k;omega) (by
   intro f l;obtain⟨g,e,rfl⟩:=bT.1 l;have:=c g e;have:=d g (by simp[e]);omega)
  rw[gw] at this;rw[h5];omega
def Fe (a:Int):Int:=if a=0 then 0 else if a=1 then 4 else if a=2 then 7 else if a=3 then 9 else 10
theorem By (s:a<=5) {E:List bF} (o:E.Pairwise fF) (c:jl a a E) (d:∀b∈E,b.2.1<=b.1):E.length<=15:=by
 have m:=E4 (E.map λb=>(Fe b.2.1+b.1).toNat) 15 (by
  rw[qh];refine List.Pairwise.imp_of_mem ?_ o;intro e f g h n;have k:=c e g;have q:=c f h;have l:=d e g;have r:=d f h;unfold fF at n;unfold Fe;split<;>split<;>(try split)<;>(try split)<;>(try split)<;>(try split)<;>(try split)<;>(try split)<;>omega) (by
  intro t p;obtain⟨j,i,rfl⟩:=bT.1 p;have k:=c j i;have l:=d j i;unfold Fe;split
  ·omega
  split
  ·omega
  split
  ·omega
  split<;>omega)
 rwa[gw] at m
theorem Ry (l:a<=5) (b:hq a a m c n) (k:gq a a m c n=0):z5 (((a:Int),(a:Int),m,c,n,()),())=some (pI a a (eg (bQ m c n a)),0,()):=by
 have f:=(jU.1 k).1;have h:=qQ f a (Nat.le_refl _);have i:=qP f;have s:=By l (q8 h) (q7 i) Bx;have r:(bQ m c n a).length<=10000:=(by rw[xo f a (Nat.le_refl _)];have:=f.om a (Nat.le_refl _);have:=b.hi;omega);unfold z5;refine au b.check ?_;dsimp only;rw[k,dr,az rfl];refine au (DV f b.hc b.hi) ?_;dsimp only;generalize bQ m c n a=E at*;refine ae.eq_iff.1 ?_;refine ae.aW (P:=λo=>o=(((0:Int),((0:Int),([],([],([],()))))),eg E,())) ?_ ?_
 ·refine ae.steps E.length (λd p=>p=((d:Int),((0:Int),((0:Int),([],([],([],()))))),eg (E.take d),E,())) rfl ?_ ?_
  ·rintro d _ j rfl;dsimp only;rw[bn (az (show(d:Int)<ax E by simp only[a7];omega)),lr j,bA U];have q:(eg (E.take d)).length<=10000:=Nat.le_trans (List.length_filter_le _ _) (by rw[List.length_take];omega);unfold eg at*;rw[Gi j];by_cases g:pF E[d]=true
   ·have e:=g;unfold pF at e;rw[bn e,if_pos g,dZ (by simp only[h5,o3];omega)];exact ae.af.2 rfl
   ·have e:=g;unfold pF at e;rw[bm (by simpa using e),if_neg g,mj];exact ae.af.2 rfl
  ·rintro _ rfl;dsimp only;rw[bm (ay (show¬((E.length:Int)<ax E) by simp only[a7];omega)),List.take_of_length_le (Nat.le_refl _)];exact ae.af.2 rfl
 ·rintro _ rfl;dsimp only;exact ae.bs (Sy b.hr b.hc U (q8 h) (q7 i)) (ae.af.2 rfl)
theorem LS (l:a<=5) (e:hq a a m c n) (h:gq a a m c n=0):sA (((a:Int),(a:Int),m,c,n,()),())=some (pI a a (eg (bQ m c n a)),0,()):=by
 have g:=(jU.1 h).1;have i:=qQ g a (Nat.le_refl _);have j:=qP g;have s:=By l (q8 i) (q7 j) Bx;have r:(bQ m c n a).length<=10000:=(by rw[xo g a (Nat.le_refl _)];have:=g.om a (Nat.le_refl _);have:=e.hi;omega);unfold sA;refine au e.vt ?_;dsimp only;rw[h,dr,az rfl];refine au (LR e h) ?_;dsimp only;generalize bQ m c n a=E at*;refine ae.eq_iff.1 ?_;refine ae.aW (P:=λo=>o=(((0:Int),((0:Int),([],([],([],()))))),eg E,())) ?_ ?_
 ·refine ae.steps E.length (λb p=>p=((b:Int),((0:Int),((0:Int),([],([],([],()))))),eg (E.take b),())) rfl ?_ ?_
  ·rintro b _ k rfl;dsimp only;rw[bn (az (show(b:Int)<ax E by simp only[a7];omega)),bX k,bA U];have q:(eg (E.take b)).length<=10000:=Nat.le_trans (List.length_filter_le _ _) (by rw[List.length_take];omega);unfold eg at*;rw[Gi k];by_cases f:pF E[b]=true
   ·have d:=f;unfold pF at d;rw[aG,aG,bn d,if_pos f,aG,dZ (by simp only[h5,o3];omega)];exact ae.af.2 rfl
   ·have d:=f;unfold pF at d;rw[aG,aG,bm (by simpa using d),if_neg f,mj];exact ae.af.2 rfl
  ·rintro _ rfl;dsimp only;rw[bm (ay (show¬((E.length:Int)<ax E) by simp only[a7];omega)),List.take_of_length_le (Nat.le_refl _)];exact ae.af.2 rfl
 ·rintro _ rfl;dsimp only;exact ae.bs (Y1 e.hr e.hc U (q8 i) (q7 j)) (ae.af.2 rfl)
def hN (b:c7) (a:ab1):c5:=(List.range a.length).map λ(c:Nat)=>(List.range a.length).map λ(d:Nat)=>decide (a.getD d 0∈b.getD (a.getD c 0).toNat [])
theorem og (b:c7) (a:ab1):(hN b a).length=a.length:=by simp[hN]
theorem sb (d:a<c.length) (e:b<c.length):fw (hN g c) a b=decide (c.getD b 0∈g.getD (c.getD a 0).toNat []):=by unfold fw hN;simp[List.getD,d,e]
theorem aaT (f:0<=e/\e<g.length) (b:0<=q/\q<g.length):∃c,aA (mV g) e=some c/\aA c q=some (decide (q∈g.getD e.toNat [])):=by
 have a:e.toNat<g.length:=U;have d:q.toNat<g.length:=U;refine⟨(List.range g.length).map λ(h:Nat)=>decide ((h:Int)∈g[e.toNat]),?_,?_⟩
 ·unfold aA;rw[if_pos f.1,MR a]
 ·unfold aA;rw[if_pos b.1,eN,o2 d,List.getD,be a];simp only[fe,kB,qc b.1]
theorem Ru (A:b2 g) (B:∀c∈g,c.length<4611686018427387904) (K:g.length<=200) (t:∀q∈c,0<=q/\q<(g.length:Int)) (H:c.Nodup) (T:c.length<=400):AK ((g,()),c,())=some ((hf (hN g c),()),0,()):=by
 classical
 rw[<-ae.eq_iff];unfold AK;have G:gO g=0:=(by unfold gO;rw[if_neg U,if_pos A]);have aj:decide (∀q∈c,0<=q/\q<(g.length:Int))=true:=decide_eq_true t;have E:decide (¬c.Nodup)=false:=decide_eq_false (λb=>b H);simp only[FT g B,G,RD c _ U,aj,RL c U,E,G8 B K (λm N=>(A.asc m N).2),IE c.length U,aG,bne_self_eq_false,cond_false,gG];simp only[ae.bW];refine ae.mono (P:=λx=>x.2.1=hN g c) ?_ ?_
 ·refine ae.for (i0:=0) c.length (λa z=>z.2.1=(List.range c.length).map λ(m:Nat)=>if m<a then(hN g c).getD m [] else List.replicate c.length false) rfl ?_ (bN _) ?_ ?_
  ·apply gY;intro W;simp[lD];split<;>simp_all
  ·rintro a ⟨y,s,_⟩ _ i f;simp only at f;simp only[ae.bV,ae.bW];refine⟨λ_=>?_,λk=>by simp at k;omega⟩;refine ae.mono (P:=λx=>x.2.1=(List.range c.length).map λ(m:Nat)=>if m<a+1 then(hN g c).getD m [] else List.replicate c.length false) ?_ (by rintro⟨y,o,_⟩ b;simp only[ae.af];exact⟨fE U,b⟩);refine ae.for (i0:=0) c.length (λd z=>z.2.1=s.set a ((List.range c.length).map λ(e:Nat)=>if e<d then fw (hN g c) a e else false)) rfl ?_ (bN _) ?_ ?_
   ·show s=_;apply gY;intro h;rw[qe];by_cases j:a=h
    ·subst j;rw[if_pos rfl,f];simp[i,List.map_const']
    ·rw[if_neg j]
   ·rintro d ⟨S,o,_⟩ _ n l;simp only at l;have O:=t _ (bI i);have Q:=t _ (bI n);obtain⟨R,L,M⟩:=aaT O Q;have V:o.length=c.length:=(by rw[l,f];simp);have r:a<o.length:=U;have v:o[a]=(List.range c.length).map λ(e:Nat)=>if e<d then fw (hN g c) a e else false:=by
     have:o[a]?=some ((List.range c.length).map λ(e:Nat)=>if e<d then fw (hN g c) a e else false):=(by rw[l,ky (by rw[f];simpa using i)]);rw[be r] at this;exact dV this
    have I:aA c (a:Int)=some c[a]:=fS (be i);have J:aA c (d:Int)=some c[d]:=fS (be n);simp only[ae.bV,ae.bW,ae.od,I,J,L,M,ae.af,ae.n1,ae.xS,dc];refine⟨λ_=>⟨⟨U,r⟩,r,⟨U,by rw[v];simpa using n⟩,r,by rw[v];simpa using n,fE U,?_⟩,λk=>by simp at k;omega⟩;rw[v,l,List.set_set];congr 1;apply gY;intro h;rw[qe,eN,eN];rcases bb h c.length with b|b
    ·rw[o2 b];simp only[fe,gw,qf];by_cases j:d=h
     ·subst j;have C:c.getD d 0=c[d]:=(by simp[List.getD,n]);have D:c.getD a 0=c[a]:=(by simp[List.getD,i]);rw[if_pos rfl,if_pos b,if_pos U,sb i n,C,D]
     ·rw[if_neg j];by_cases p:h<d
      ·rw[if_pos p,if_pos U]
      ·rw[if_neg p,if_neg U]
    ·rw[if_neg U,fu (by simpa using b)];rfl
   ·rintro⟨S,o,_⟩ l;simp only at l;simp only[ae.bV,ae.af];refine⟨λk=>by simp at k,λ_=>?_⟩;rw[l,f];apply gY;intro h;rw[qe,eN,eN];rcases bb h c.length with b|b
    ·rw[o2 b];simp only[fe,gw,qf];by_cases j:a=h
     ·subst j;rw[if_pos rfl,if_pos b,if_pos U];congr 1;have:(hN g c).getD a []=(List.range c.length).map λ(e:Nat)=>fw (hN g c) a e:=by
       have F:(hN g c).getD a []=(List.range c.length).map λ(d:Nat)=>decide (c.getD d 0∈g.getD (c.getD a 0).toNat []):=(by simp[hN,List.getD,i]);rw[F];refine hU λe w=>?_;rw[sb i (fd.1 w)]
      rw[this];refine hU λe w=>?_;rw[if_pos (fd.1 w)]
     ·rw[if_neg j];by_cases p:h<a
      ·rw[if_pos p,if_pos U]
      ·rw[if_neg p,if_neg U]
    ·rw[if_neg U,fu (by simpa using b)];rfl
  ·rintro⟨y,s,_⟩ f;simp only at f;simp only[ae.bV,ae.af];refine⟨λk=>by simp at k,λ_=>?_⟩;rw[f];apply gY;intro h;rw[eN];rcases bb h c.length with b|b
   ·rw[o2 b];simp only[fe];rw[if_pos b,List.getD,be (by rw[og];exact b)];rfl
   ·rw[fu (by simpa using b),fu (by rw[og];exact b)];rfl
 ·rintro⟨y,s,_⟩ f;simp only at f;subst f;rw[GM]
  ·simp only[ae.af]
  ·intro R u;unfold hN at u;simp only[bT] at u;obtain⟨a,_,rfl⟩:=u;simp[hN]
  ·rw[og];omega
theorem RA (o:b2 g) (j:∀p∈c,0<=p/\p<(g.length:Int)) (r:c.Nodup):b1 (hf (hN g c)) a b↔∃(i:a<c.length) (d:b<c.length),b1 g (c[a]).toNat (c[b]).toNat:=by
 unfold b1;constructor
 ·rintro⟨e,h⟩;rw[Ed,og] at e;simp only[hf,rV,List.getElem_range,xV,og] at h;obtain⟨d,s,f⟩:=h;refine⟨e,d,?_⟩;have l:=j _ (bI e);have k:=j _ (bI d);have m:g.getD (c[a]).toNat []=g[(c[a]).toNat]'(by omega):=by rw[List.getD,be U];rfl
  have n:g.getD (c[b]).toNat []=g[(c[b]).toNat]'(by omega):=by rw[List.getD,be U];rfl
  refine⟨U,?_⟩;rw[qc k.1];rw[fy,sb e d,sb d e] at f;simp only[List.getD,be e,be d,kB,decide_eq_true_eq] at f;simp only[List.getD] at m n;rcases f with f|f
  ·rw[m] at f;exact f
  ·rw[n] at f;have:=o.sym (c[b]).toNat U (c[a]).toNat U (by rw[qc l.1];exact f);rw[qc k.1] at this;exact this
 ·rintro⟨i,d,e,h⟩;refine⟨by rw[Ed,og];exact i,?_⟩;simp only[hf,rV,List.getElem_range,xV,og];have l:=j _ (bI i);have k:=j _ (bI d);rw[qc k.1] at h;refine⟨d,λq=>?_,?_⟩
  ·subst q;have:=o.Et (c[a]).toNat e;rw[qc l.1] at this;exact this h
  ·rw[fy,sb i d];left;simp only[List.getD,be i,be d,kB,decide_eq_true_eq,be e];exact h
section
inductive g9 (A:Nat->Nat->Prop) (P:Nat->Prop):Nat->Nat->Prop
 |one {i j:Nat}:A i j->g9 A P i j
 |step {i m j:Nat}:A i m->P m->g9 A P m j->g9 A P i j
section
variable {A:Nat->Nat->Prop} {P:Nat->Prop}
theorem g9.trans (c:g9 A P b a) (e:P a) (d:g9 A P a h):g9 A P b h:=by
 induction c with
 |one c=>exact .step c e d
 |step c f _ g=>exact .step c f (g e d)
theorem g9.symm (f:∀d e,A d e->A e d) (c:g9 A P a b):g9 A P b a:=by
 induction c with
 |one c=>exact .one (f _ _ c)
 |step c g _ h=>exact h.trans g (.one (f _ _ c))
theorem g9.mono (f:∀d,P d->w d) (c:g9 A P a b):g9 A w a b:=by
 induction c with
 |one c=>exact .one c
 |step c e _ g=>exact .step c (f _ e) g
theorem g9.insert_iff:g9 A (λf=>P f\/f=h) a b↔g9 A P a b\/(g9 A P a h/\g9 A P h b):=by
 constructor
 ·intro c
  induction c with
  |one c=>exact .inl (.one c)
  |@step a m b c g _ d=>
   rcases g with g|rfl
   ·rcases d with d|⟨l,i⟩
    ·exact .inl (.step c g d)
    ·exact .inr ⟨.step c g l,i⟩
   ·rcases d with d|⟨_,i⟩
    ·exact .inr ⟨.one c,d⟩
    ·exact .inr ⟨.one c,i⟩
 ·rintro(c|⟨j,k⟩)
  ·exact c.mono λf e=>.inl e
  ·exact(j.mono λf e=>.inl e).trans (.inr rfl) (k.mono λf e=>.inl e)
theorem g9.none:g9 A (λ_=>False) a b↔A a b:=by
 constructor
 ·intro c;cases c with
  |one c=>exact c
  |step _ c _=>exact c.elim
 ·exact .one
theorem Nq:eJ A h a b↔g9 A (λf=>f<h) a b:=by
 constructor
 ·intro c
  induction c with
  |one c=>exact .one c
  |step c d _ e=>exact .step c d e
 ·intro c
  induction c with
  |one c=>exact .one c
  |step c d _ e=>exact .step c d e
end
end
section
theorem aaz:∀{d b:ab1},d.Pairwise (· < ·)->b.Pairwise (· < ·)->(∀f,f∈d↔f∈b)->d=b:=by
 intro d
 induction d with
 |nil=>
  intro b _ _ e;cases b with
  |nil=>rfl
  |cons j b=>exact absurd ((e j).2 (iH ..)) ac
 |cons f d l=>
  intro b h i e;cases b with
  |nil=>exact absurd ((e f).1 (iH ..)) ac
  |cons j b=>
   rw[lF] at h i;have k:f=j:=by
    have c:=(e f).1 (iH ..);have a:=(e j).2 (iH ..);rcases dh.1 c with c|c
    ·exact c
    ·rcases dh.1 a with a|a
     ·exact a.symm
     ·have:=i.1 _ c;have:=h.1 _ a;omega
   subst k;rw[l h.2 i.2];intro m;have:=e m;simp only[dh] at this;constructor
   ·intro g;have c:=h.1 _ g;rcases this.1 (.inr g) with a|a
    ·omega
    ·exact a
   ·intro g;have c:=i.1 _ g;rcases this.2 (.inr g) with a|a
    ·omega
    ·exact a
structure vQ (aI:c7) (S:Nat->Prop) (T:c5) (gone:abX):Prop where
 Cw:T.length=aI.length
 rows:∀v,(h:v<T.length)->T[v].length=aI.length
 hK:gone.length=aI.length
 Jn:∀v,(h:v<gone.length)->(gone[v]=true↔S v)
 Gl:∀u w,(abN:u<T.length)->(hw:w<T[u].length)->¬S u->¬S w->(T[u][w]=true↔u≠w/\g9 (b1 aI) S u w)
def j5 (b:c5) (c:abX) (e d:Nat):ab1:=((List.range d).filter λa=>fw b e a&&!c.getD a false).map λ(a:Nat)=>(a:Int)
theorem ET {c:Nat->Prop} (d:vQ g c x y) {v w:Nat} (n:v<g.length) (j:¬c v):(w:Int)∈j5 x y v g.length↔w<g.length/\¬c w/\v≠w/\g9 (b1 g) c v w:=by
 unfold j5;simp only[bT,fc,fd,bg,vL];have l:∀w,w<g.length->((fw x v w=true/\y.getD w false=false)↔¬c w/\v≠w/\g9 (b1 g) c v w):=by
  intro w k;have a:v<x.length:=(by rw[d.Cw];exact n);have b:w<x[v].length:=(by rw[d.rows v a];exact k);have h:w<y.length:=(by rw[d.hK];exact k);have m:y.getD w false=y[w]:=(by simp[List.getD,h]);rw[ug a b,m,Bool.eq_false_iff,ne_eq,d.Jn w h];constructor
  ·rintro⟨e,f⟩;exact⟨f,(d.Gl v w a b j f).1 e⟩
  ·rintro⟨e,f⟩;exact⟨(d.Gl v w a b j e).2 f,e⟩
 constructor
 ·rintro⟨i,⟨a,b⟩,h⟩;obtain rfl:i=w:=U;exact⟨a,(l i a).1 b⟩
 ·exactλ⟨a,b⟩=>⟨w,⟨a,(l w a).2 b⟩,rfl⟩
theorem E5 (b:c5) (c:abX) (d a:Nat):(j5 b c d a).length<=a:=by unfold j5;rw[gw];exact dn (h6 _ _) ac
theorem E6 (c:e∈j5 x y b a):∃d:Nat,e=(d:Int)/\d<a:=by unfold j5 at c;simp only[bT,fc,fd] at c;obtain⟨f,⟨g,_⟩,h⟩:=c;exact⟨f,h.symm,g⟩
theorem GW (r:x.length=b) (n:∀a,(c:a<x.length)->x[a].length=b) (s:y.length=b) (u:b<=4294967296) (w:a<b):xh (some (x,y,()),(a:Int),())=some (j5 x y a b,()):=by
 rw[<-ae.eq_iff];unfold xh;have t:fq=4294967296:=rfl;simp only[ae.bW,ae.af];refine ae.mono (P:=λi=>i.1=j5 x y a b) ?_ (by rintro⟨h,_⟩ c;simp only at c;rw[c]);refine ae.for (i0:=0) b (λp q=>q.1=j5 x y a p) rfl rfl (bN _) ?_ ?_
 ·rintro d ⟨h,_⟩ _ o e;simp only at e;have v:=E5 x y a d;simp only[aG];rw[ae.bV];refine⟨λ_=>?_,λf=>by simp at f;omega⟩;rw[ae.bW,ae.bW];have g:a<x.length:=U;have j:d<x[a].length:=(by rw[n a g];exact o);have k:aA x (a:Int)=some x[a]:=fS (be g);have l:aA x[a] (d:Int)=some x[a][d]:=fS (be j);have m:aA y (d:Int)=some (y.getD d false):=fS (by rw[be U];simp[List.getD,(U:d<y.length)]);refine ae.mono (P:=λi=>i=((fw x a d&&!y.getD d false),h,())) ?_ ?_
  ·simp only[k,l,m,ae.bW,ae.bV,ae.af,ug g j];refine⟨λc=>?_,λc=>?_⟩
   ·have c:x[a][d]=true:=(by simpa using c);rw[c];rfl
   ·have c:x[a][d]=false:=(by simpa using c);rw[c];rfl
  ·rintro _ rfl;simp only[ae.bV,ae.bW,ae.af,ae.q3];refine⟨λc=>⟨by rw[e];simp;omega,fE U,?_⟩,λc=>⟨fE U,?_⟩⟩
   ·unfold j5 at e|-;rw[iZ,iX,fZ,<-e];simp only[iD,oY];rw[if_pos c];rfl
   ·unfold j5 at e|-;rw[iZ,iX,fZ,<-e];simp only[iD,oY];rw[if_neg (by rw[c];simp)];simp
 ·rintro⟨h,_⟩ e;simp only at e;simp only[aG,ae.bV,ae.af];exact⟨λf=>by simp at f;omega,λ_=>e⟩
theorem Sj (e:a<x.length) (h:b<x[a].length) (c d:Nat):fw (x.set a (x[a].set b true)) c d=(fw x c d||(c==a&&d==b)):=by
 unfold fw;simp only[List.getD,qe];by_cases f:a=c
 ·subst f;rw[if_pos rfl,if_pos e,be e];simp only[kB,qe];by_cases g:b=d
  ·subst g;rw[if_pos rfl,if_pos h];simp
  ·rw[if_neg g];have:(d==b)=false:=(by rw[beq_eq_false_iff_ne];omega);simp[this]
 ·rw[if_neg f];have:(c==a)=false:=(by rw[beq_eq_false_iff_ne];omega);simp[this]
theorem Kw (a:c5) (b:abX) (d c:Nat):(j5 a b d c).Pairwise (· < ·):=Cs _ _
theorem NK (V:x.length=a) (W:∀b,(c:b<x.length)->x[b].length=a) (ap:y.length=a) (a0:a<=4294967296) (a3:b<a):ae (xg ((x,y,()),(b:Int),())) (λF=>F.1.2.1=y.set b true/\F.1.1.length=a/\(∀b,(c:b<F.1.1.length)->F.1.1[b].length=a)/\∀e d,e<a->d<a->(fw F.1.1 e d=true↔fw x e d=true\/((e:Int)∈j5 x y b a/\(d:Int)∈j5 x y b a/\e≠d))):=by
 unfold xg;simp only[GW V W ap a0 a3,aG];have ab:=E5 x y b a;have M:∀J∈j5 x y b a,∃d:Nat,J=(d:Int)/\d<a:=λJ R=>E6 R;have N:=Kw x y b a;generalize j5 x y b a=h at ab M N;have a4:∀t u:Nat,(c:t<h.length)->(g:u<h.length)->h[t]=h[u]->t=u:=λt u c g L=>by
  rcases k5 t u with C|C|C
  ·have:=(gx.1 N) t u c g C;omega
  ·exact C
  ·have:=(gx.1 N) u t g c C;omega
 simp only[ae.bW];refine ae.mono (P:=λf:cw×Unit=>f.1.2.1=y/\f.1.1.length=a/\(∀b,(c:b<f.1.1.length)->f.1.1[b].length=a)/\∀e d,e<a->d<a->(fw f.1.1 e d=true↔fw x e d=true\/((e:Int)∈h/\(d:Int)∈h/\e≠d))) ?_ ?_
 ·refine ae.for (i0:=0) h.length (λq f=>f.1.2.1=y/\f.1.1.length=a/\(∀b,(c:b<f.1.1.length)->f.1.1[b].length=a)/\∀e d,e<a->d<a->(fw f.1.1 e d=true↔fw x e d=true\/((e:Int)∈h.take q/\(d:Int)∈h/\e≠d))) rfl ⟨rfl,V,W,λe d _ _=>by simp⟩ (bN _) ?_ ?_
  ·rintro q ⟨⟨S,T,_⟩,_⟩ _ I ⟨m,n,o,p⟩;simp only at m n o p;simp only[ae.bV,ae.bW];refine⟨λ_=>?_,λs=>by simp at s;omega⟩;refine ae.mono (P:=λf:cw×Unit=>f.1.2.1=y/\f.1.1.length=a/\(∀b,(c:b<f.1.1.length)->f.1.1[b].length=a)/\∀e d,e<a->d<a->(fw f.1.1 e d=true↔fw x e d=true\/((e:Int)∈h.take (q+1)/\(d:Int)∈h/\e≠d))) ?_ (by rintro⟨L,_⟩ c;simp only[ae.af];exact⟨fE U,c⟩);obtain⟨l,H,bd⟩:=M _ (bI I);refine ae.for (i0:=0) h.length (λw f=>f.1.2.1=y/\f.1.1.length=a/\(∀b,(c:b<f.1.1.length)->f.1.1[b].length=a)/\∀e d,e<a->d<a->(fw f.1.1 e d=true↔fw x e d=true\/((e:Int)∈h.take q/\(d:Int)∈h/\e≠d)\/(e=l/\(d:Int)∈h.take w/\e≠d))) rfl ⟨m,n,o,λe d j k=>by rw[p e d j k];simp⟩ (bN _) ?_ ?_
   ·rintro w ⟨⟨K,X,_⟩,_⟩ _ E ⟨z,A,r,B⟩;simp only at z A r B;obtain⟨G,D,am⟩:=M _ (bI E);have Y:aA h (q:Int)=some (l:Int):=fS (by rw[be I,H]);have Z:aA h (w:Int)=some (G:Int):=fS (by rw[be E,D]);have v:l<K.length:=U;have O:G<K[l].length:=(by rw[r l v];exact am);simp only[ae.bV,ae.bW,Y,Z,ae.af,ae.od,ae.n1,ae.xS,dc];refine⟨λ_=>⟨λQ=>⟨⟨U,v⟩,v,⟨U,O⟩,v,O,fE U,z,by simpa using A,λJ R=>?_,λe d j k=>?_⟩,λan=>⟨fE U,z,A,r,λe d j k=>?_⟩⟩,λs=>by simp at s;omega⟩
    ·rw[List.getElem_set];split
     ·rw[o4];exact r l v
     ·exact r J (by simpa using R)
    ·have Q:q≠w:=(by simp at Q;omega);have ad:l≠G:=λL=>Q (a4 q w I E (by rw[H,D,L]));rw[Sj v O,fy,B e d j k,<-mW E,D,eH,eS];simp only[bg,beq_iff_eq];constructor
     ·rintro((c|c|⟨c,g,i⟩)|⟨c,g⟩)
      ·exact .inl c
      ·exact .inr (.inl c)
      ·exact .inr (.inr ⟨c,.inl g,i⟩)
      ·exact .inr (.inr ⟨c,.inr U,U⟩)
     ·rintro(c|c|⟨c,g|g,i⟩)
      ·exact .inl (.inl c)
      ·exact .inl (.inr (.inl c))
      ·exact .inl (.inr (.inr ⟨c,g,i⟩))
      ·exact .inr ⟨c,U⟩
    ·have av:q=w:=(by simp at an;omega);have ad:l=G:=by
      subst av;rw[H] at D;omega
     rw[B e d j k,<-mW E,D,eH,eS];constructor
     ·rintro(c|c|⟨c,g,i⟩)
      ·exact .inl c
      ·exact .inr (.inl c)
      ·exact .inr (.inr ⟨c,.inl g,i⟩)
     ·rintro(c|c|⟨c,g|g,i⟩)
      ·exact .inl c
      ·exact .inr (.inl c)
      ·exact .inr (.inr ⟨c,g,i⟩)
      ·omega
   ·rintro⟨⟨K,X,_⟩,_⟩ ⟨z,A,r,B⟩;simp only at z A r B;simp only[ae.bV,ae.af];refine⟨λs=>by simp at s,λ_=>⟨z,A,r,λe d j k=>?_⟩⟩;rw[B e d j k,m8,<-mW I,H,eH,eS];constructor
    ·rintro(c|⟨c,g,i⟩|⟨c,g,i⟩)
     ·exact .inl c
     ·exact .inr ⟨.inl c,g,i⟩
     ·exact .inr ⟨.inr U,g,i⟩
    ·rintro(c|⟨c|c,g,i⟩)
     ·exact .inl c
     ·exact .inr (.inl ⟨c,g,i⟩)
     ·exact .inr (.inr ⟨U,g,i⟩)
  ·rintro⟨⟨S,T,_⟩,_⟩ ⟨m,n,o,p⟩;simp only at m n o p;simp only[ae.bV,ae.af];refine⟨λs=>by simp at s,λ_=>⟨m,n,o,λe d j k=>?_⟩⟩;rw[p e d j k,m8]
 ·rintro⟨⟨S,T,_⟩,_⟩ ⟨m,n,o,p⟩;simp only at m n o p;subst m;simp only[ae.bW,ae.od,ae.n1,ae.af,ae.xS,dc];exact⟨⟨U,U⟩,U,trivial,n,o,p⟩
theorem NI (I:b2 g) (J:g.length<=4294967296) (c:vQ g w x y) (n:a<g.length) (t:¬w a):ae (xg ((x,y,()),(a:Int),())) (λE=>vQ g (λj=>w j\/j=a) E.1.1 E.1.2.1):=by
 refine(NK c.Cw c.rows c.hK J n).mono ?_;rintro⟨⟨M,h,_⟩,_⟩ ⟨q,r,k,s⟩;simp only at q r k s|-;subst q;have z:=b1.symm I;refine⟨r,k,by rw[o4];exact c.hK,λj N=>?_,λd f A o u v=>?_⟩
 ·rw[List.getElem_set];by_cases i:a=j
  ·rw[if_pos i];simp[i]
  ·rw[if_neg i,c.Jn];constructor
   ·exact .inl
   ·rintro(b|b)
    ·exact b
    ·exact absurd b.symm i
 ·have m:d<g.length:=U;have p:f<g.length:=(by rw[k d A] at o;exact o);have:=s d f m p;rw[ug A o] at this;have l:d<x.length:=(by rw[c.Cw];exact m);have B:f<x[d].length:=(by rw[c.rows d l];exact p);have C:¬w d:=λb=>u (.inl b);have D:¬w f:=λb=>v (.inl b);have K:a≠d:=λb=>u (.inr b.symm);have L:a≠f:=λb=>v (.inr b.symm);rw[this,ug l B,c.Gl d f l B C D,ET c n t,ET c n t,g9.insert_iff];constructor
  ·rintro(⟨h,e⟩|⟨⟨_,_,_,e⟩,⟨_,_,_,G⟩,H⟩)
   ·exact⟨h,.inl e⟩
   ·exact⟨H,.inr ⟨e.symm z,G⟩⟩
  ·rintro⟨h,e|⟨e,F⟩⟩
   ·exact .inl ⟨h,e⟩
   ·exact .inr ⟨⟨m,C,K,e.symm z⟩,⟨p,D,L,F⟩,h⟩
theorem NB (f:b2 g) (m:∀p∈g,p.length<4611686018427387904) (n:g.length<=200):ae (AL ((g,()),())) (λj=>vQ g (λ_=>False) j.1.1 j.1.2.1):=by
 unfold AL;have q:fq=4294967296:=rfl;simp only[G8 m n (λd o=>(f.asc d o).2),aG,ae.bW,ae.va,ae.af,dc];refine⟨⟨U,U,U⟩,Gh g,λd l=>?_,ac,λd l=>by simp,λc e h i _ _=>?_⟩
 ·simp[mV]
 ·rw[g9.none];have b:c<g.length:=(by rw[Gh] at h;exact h);have r:e<g.length:=(by simp[mV] at i;exact i);have k:(mV g)[c][e]=decide ((e:Int)∈g[c]):=(by simp[mV,List.getD,b]);rw[k,decide_eq_true_eq];constructor
  ·exactλa=>⟨b1.ne f ⟨b,a⟩,b,a⟩
  ·exactλa=>a.2.2
open Classical in
theorem ZG (k:b2 g) (q:∀A∈g,A.length<4611686018427387904) (y:g.length<=200):xi ((g,()),())=some ((List.range g.length).map (bk g),0,()):=by
 rw[<-ae.eq_iff];unfold xi;have F:fq=4294967296:=rfl;have u:gO g=0:=(by unfold gO;rw[if_neg U,if_pos k]);simp only[FT g q,u,aG,bne_self_eq_false,cond_false];simp only[ae.bW];refine(NB k q y).mono ?_;rintro⟨⟨h,i,_⟩,_⟩ d;simp only at d;simp only[ae.bW];refine ae.mono (P:=λC=>C.1=(List.range g.length).map (bk g)) ?_ (by rintro⟨H,_⟩ o;simp only at o;simp only[ae.af,o]);refine ae.for (i0:=0) g.length (λa n=>n.2.1=(List.range a).map (bk g)/\vQ g (λc=>c<a) n.1.1 n.1.2.1) rfl ⟨rfl,?_⟩ (bN _) ?_ ?_
 ·have:(λc:Nat=>c<0)=λ_=>False:=(by funext c;simp);rw[this];exact d
 ·rintro a ⟨⟨h,i,_⟩,B,_⟩ _ j ⟨f,d⟩;simp only at f d;have G:=E5 h i a g.length;have x:[(a:Int)]++j5 h i a g.length=bk g a:=by
   have m:=λe=>ET d (v:=a) (w:=e) j (Nat.lt_irrefl a);refine aaz ?_ (zh g a) ?_
   ·rw[yN,lF];refine⟨λc b=>?_,Kw _ _ _ _⟩;obtain⟨e,rfl,_⟩:=E6 b;have:=(m e).1 b;omega
   ·intro c;constructor
    ·intro b;rw[yN,dh] at b;rcases b with rfl|b
     ·exact mJ.2 ⟨j,.inl rfl⟩
     ·obtain⟨e,rfl,_⟩:=E6 b;have:=(m e).1 b;exact mJ.2 ⟨this.1,.inr ⟨U,Nq.2 this.2.2.2⟩⟩
    ·intro b;rw[yN,dh];have z:=b;unfold bk jc at b;simp only[bT] at b;obtain⟨e,_,rfl⟩:=b;obtain⟨r,s|⟨s,t⟩⟩:=mJ.1 z
     ·exact .inl U
     ·exact .inr ((m e).2 ⟨r,U,U,Nq.1 t⟩)
  rw[ae.bV];refine⟨λ_=>?_,λl=>by simp at l;omega⟩;simp only[GW d.Cw d.rows d.hK (U:g.length<=4294967296) j,aG,ae.bW,ae.q3];refine⟨by simp;omega,by rw[f];simp;omega,?_⟩;refine(NI k U d j (Nat.lt_irrefl a)).mono ?_;rintro⟨⟨D,E,_⟩,_⟩ p;simp only at p;simp only[ae.af];refine⟨fE U,?_,?_⟩
  ·rw[f,x,iZ,fZ];rfl
  ·have:(λc:Nat=>c<a+1)=λc=>c<a\/c=a:=(by funext c;apply propext;omega);rw[this];exact p
 ·rintro⟨⟨h,i,_⟩,B,_⟩ ⟨f,_⟩;simp only at f;simp only[ae.bV,ae.af];exact⟨λl=>by simp at l,λ_=>f⟩
end
theorem R9 (d:c.Pairwise (· < ·)) (e:∀g∈c,0<=g):∀a,(b:a<c.length)->(a:Int)<=c[a]:=by
 intro a
 induction a with
 |zero=>intro b;exact e _ (bI b)
 |succ a f=>
  intro b;have h:=f U;have i:=x8.1 d a b;omega
theorem oM.length {a:ab1} {c:Nat} (b:oM a c):a.length<=c:=by
 rcases g7 a.length with d|d
 ·omega
 ·have g:=R9 b.1 (λf e=>(b.2 f e).1) (a.length-1) U;have h:=(b.2 _ (bI (U:a.length-1<a.length))).2;omega
theorem b2.rows (b:b2 g):∀a∈g,a.length<=g.length:=by intro a c;obtain⟨e,d,rfl⟩:=fH.1 c;exact(b.asc e d).length
theorem b2.hc (b:b2 g) (d:g.length<=200):∀a∈g,a.length<4611686018427387904:=λa c=>by have:=b.rows a c;omega
theorem qy:gO g=0↔g.length<=200/\b2 g:=by
 unfold gO;by_cases a:200<g.length
 ·rw[if_pos a];constructor
  ·intro a;omega
  ·intro a;omega
 ·rw[if_neg a];by_cases b:b2 g
  ·rw[if_pos b];exact⟨λ_=>⟨U,b⟩,λ_=>rfl⟩
  ·rw[if_neg b];exact⟨λa=>by omega,λa=>absurd a.2 b⟩
def pP (a:c7) (b:Nat):Int:=((bk a b)[1]?).getD (-1)
theorem rJ.eq (f:b2 g) (d:rJ g c):c=aq g.length (pP g):=by
 rw[<-d.len];refine IS c _ (λi e=>?_);have h:i<g.length:=(by rw[<-d.len];exact e);rcases Y6 f d h with⟨b,a⟩|⟨j,k,b,a,_⟩
 ·rw[be e] at a;simp only[bH] at a;rw[a,pP,b];rfl
 ·rw[be e] at a;simp only[bH] at a;rw[a,pP,b];rfl
theorem Uw (a:b2 g) (c:g.length<=200):rJ g (aq g.length (pP g)):=by obtain⟨d,_,_,b⟩:=G4 g (a.hc c) c a;rw[<-b.eq a];exact b
section
def Ia (P:Nat->Prop):Nat->Nat
 |0=>0
 |k+1=>Ia P k+(open Classical in if P k then 1 else 0)
section
variable {P Q:Nat->Prop} {k:Nat}
end
def CP (n:Nat) (f:Nat->Int):Prop:=∀a,a<n->f a=-1\/((a:Int)<f a/\f a<n)
def CR (n:Nat) (f:Nat->Int) (a b:Nat):Prop:=a<n/\f a=(b:Int)
def Sub (n:Nat) (f:Nat->Int) (a b:Nat):Prop:=gn (CR n f) a b
section
variable {n:Nat} {f:Nat->Int} (A:CP n f)
include A
omit A in
theorem Sub.Vs:Sub n f a b↔a=b\/∃d,Sub n f a d/\CR n f d b:=by
 constructor
 ·intro c
  induction c with
  |refl=>exact .inl rfl
  |@step a j b c e i=>
   rcases i with rfl|⟨d,g,h⟩
   ·exact .inr ⟨a,.refl _,c⟩
   ·exact .inr ⟨d,.step c g,h⟩
 ·rintro(rfl|⟨d,c,e⟩)
  ·exact .refl _
  ·exact gn.trans c (.step e (.refl _))
def MQ (n:Nat) (f:Nat->Int) (b:Nat):Nat:=Ia (λa=>Sub n f a b) n
def NE (n:Nat) (f:Nat->Int):Prop:=∀a,a<n->∀b,Sub n f b a->a<b+MQ n f a
end
end
section
section
variable {aI:c7} (B:b2 aI) (A:aI.length<=200)
include B A
theorem FC:CR aI.length (pP aI) b a↔iC (b1 aI) b a:=by
 have f:=Uw B A;rw[<-f.iT,lV];constructor
 ·rintro⟨d,e⟩;rw[if_pos d,e]
 ·intro c;split at c
  ·rename_i d;exact⟨d,by simpa using c⟩
  ·cases c
theorem MJ:Sub aI.length (pP aI) a b↔gF (b1 aI) a b:=by
 constructor
 ·intro c
  induction c with
  |refl=>exact .refl _
  |step c _ d=>exact .up ((FC B A).1 c) d
 ·intro c
  induction c with
  |refl=>exact .refl _
  |up c _ d=>exact .step ((FC B A).2 c) d
end
def WE (b:ab1) (n a:Nat):Int:=(b[a+1]?).getD n
section
variable {n:Nat} {f:Nat->Int} (C:CP n f) (A:n<=200)
include C A
end
end
section
theorem S0 (aI:c7) (a:Nat):(bk aI a).length<=aI.length:=Dn aI a aI.length
section
variable {aI:c7} (A:b2 aI) (B:aI.length<=200)
include A B
end
end
section
section
variable {aI:c7} (A:b2 aI) (B:aI.length<=200)
include A B
theorem ZH:xi ((aI,()),())=some (aq aI.length (bk aI),0,()):=ZG A (A.hc B) B
end
end
section
structure G3 (n:Nat) (f:Nat->Int) (Ge:ab1) (m:Nat) (s e:Nat->Nat):Prop where
 len:Ge.length=m
 st:Ge=aq m λk=>(s k:Int)
 abP:0<n->0<m/\s 0=0
 abO:n=0->m=0
 ok:∀k,k<m->s k<e k/\e k<=n/\e k<=s k+MQ n f (e k-1)
 aZ:∀k,k<m->WE Ge n k=(e k:Int)
 abD:∀k,k+1<m->e k=s (k+1)
 el:∀k,k+1=m->e k=n
section
variable {aI:c7} (A:b2 aI) (B:aI.length<=200)
include A B
end
end
section
def gS (s:Nat->Nat) (a:Nat):Nat->Int
 |0=>-1
 |k+1=>if s k<=a then(k:Int) else gS s a k
abbrev b3:=Int×cE
section
variable {n:Nat} {f:Nat->Int} {A:ab1} {m:Nat} {s e:Nat->Nat} (B:G3 n f A m s e)
include B
end
section
variable {aI:c7} (C:b2 aI) (D:aI.length<=200)
include C D
end
end
theorem Rz:∀a:Nat,a<201->z1 (1,(a:Int),())=some (0,(a:Int),()):=by unfold z1;decide+kernel
theorem RG (c:Int) (t:0<a) (u:a<=200):Ah ([c],(a:Int),())=some (List.replicate a c,()):=by
 unfold Ah;have aj:IntKind.u64.wrap (a:Int)=(a:Int):=(by rw[Ns];omega);have m:IntKind.u64.wrap ((1:Nat):Int)=1:=(by rw[Ns];rfl);have r:¬((a:Int)<0):=U;have p:¬((a:Int)>9223372036854775807):=U;simp only[bu,if_neg r,aG,Dx,aj,m,Rz a U,zk,(U:¬((0:Int)>0)),if_false,ay p,cond_false,CI (U:a<9223372036854775808),gT (U:a<=4294967296),m6,yM,Nat.sub_zero];rw[<-ae.eq_iff];refine ae.aW (P:=λl=>l.1=List.replicate a c) ?_ (by rintro⟨l,⟨⟩⟩ g;simp only at g;subst g;exact ae.af.2 rfl);have s:∀b:Nat,b<=a->List.replicate b c++List.replicate (a-b) 0=aq a (λd=>if d<b then c else 0):=λb i=>(by rw[he,he,xw];have:b+(a-b)=a:=U;rw[this]);refine ae.loop (λf=>∃b:Nat,f.1=(b:Int)/\0<b/\b<=a/\f.2.1=aq a (λd=>if d<b then c else 0)) (λf=>a-f.1.toNat) ⟨1,?_,U,U,?_⟩ ?_
 ·show((min 1 a:Nat):Int)=1;rw[gm U];rfl
 ·show hZ (List.replicate a 0) [c] 0 a=_;unfold hZ;rw[gm (show[c].length<=a-0 by simp;omega),List.take_zero,dK (show[c].length<=a-0 by simp;omega),fO,List.drop_replicate,he];show[c]++aq (a-1) (λ_=>0)=_;have:[c]=aq 1 (λ_=>c):=rfl;rw[this,xw];have:1+(a-1)=a:=U;rw[this]
 ·rintro⟨f,w,⟨⟩⟩ ⟨b,i,v,q,k⟩;simp only at i k;subst i k;simp only[bi];by_cases g:b<a
  ·simp(disch:=omega) only[if_pos,s8,u1,LK,aG,fe,ml,A6,bi];refine ae.af.2 ⟨⟨b+min b (a-b),Nu U,U,U,?_⟩,?_⟩
   ·show hZ (aq a λd=>if d<b then c else 0) (aq b λd=>if d<b then c else 0) b a=_;unfold hZ;have n:(aq b λd=>if d<b then c else 0)=aq b λ_=>c:=bR λd h=>(by rw[if_pos h]);have o:(aq b λ(_:Nat)=>c).take (a-b)=aq (min b (a-b)) λ_=>c:=by
     rcases Nat.le_total (a-b) b with e|e
     ·rw[A6 _ _ _ e,tV e]
     ·rw[dK (by rw[bi];exact e),gm e]
    rw[A6 _ _ _ q,bi,n,o,Un,xw,xw];have:b+(min b (a-b)+(a-(b+min b (a-b))))=a:=U;rw[this];refine bR λd h=>?_;by_cases e:d<b
    ·rw[if_pos e,if_pos U]
    ·rw[if_neg e];by_cases j:d-b<min b (a-b)
     ·rw[if_pos j,if_pos U]
     ·rw[if_neg j,if_neg U,if_neg U]
   ·show a-(IntKind.i64.wrap ((b:Int)+((min b (a-b):Nat):Int))).toNat<a-(b:Int).toNat;rw[Nu U];omega
  ·simp(disch:=omega) only[if_neg];refine ae.af.2 ?_;show _=_;rw[he];exact bR λd h=>by rw[if_pos U]
def aK (a:List b3):Nat->Nat
 |0=>0
 |k+1=>((a[k]?).map λ(b:b3)=>b.2.1.toNat).getD 0
def oP (d:Nat) (c:List b3) (b:Nat):Prop:=∃a:b3,c[b]?=some a/\a.1=(aK c b:Int)/\(aK c b:Int)<a.2.1/\a.2.1<=(d:Int)
def mf (c:Nat) (a:List b3):Prop:=(∀b,b<a.length->oP c a b)/\aK a a.length=c
theorem SA {b:List b3} (c:a<b.length) (d:0<=b[a].2.1):(aK b (a+1):Int)=b[a].2.1:=by simp only[aK,be c,fe,kB];omega
theorem oP.at {e:Nat} {b:List b3} {a:Nat} (d:a<b.length) (f:oP e b a):b[a].1=(aK b a:Int)/\b[a].2.1=(aK b (a+1):Int)/\aK b a<aK b (a+1)/\aK b (a+1)<=e:=by obtain⟨j,c,g,h,i⟩:=f;rw[be d] at c;simp only[bH] at c;subst c;have:=SA d U;omega
theorem wq {d:List b3} {m:Nat} (f:∀e,e<m->e<d.length/\oP a d e):∀c b,c<=b->b<=m->aK d c<=aK d b:=by
 intro c b l
 induction b with
 |zero=>
  intro _;obtain rfl:c=0:=by omega
  exact aY _
 |succ b j=>
  intro n;rcases bb c (b+1) with g|g
  ·have k:=j U U;obtain⟨h,i⟩:=f b U;have:=i.at h;omega
  ·obtain rfl:c=b+1:=U;exact aY _
theorem ze {c:List b3} {m:Nat} (f:∀a,a<m->a<c.length/\oP h c a) (o:a<m) (i:aK c a<=b) (k:b<aK c (a+1)):∀d,a<d->d<=m->gS (aK c) b d=(a:Int):=by
 intro d
 induction d with
 |zero=>intro f;omega
 |succ e j=>
  intro l n;rcases bb a e with g|g
  ·have:=wq f (a+1) e U U;simp only[hT.gS];rw[if_neg U];exact j g U
  ·obtain rfl:e=a:=U;simp only[hT.gS];rw[if_pos i]
theorem uk {d:List b3} (f:mf b d) (j:a<b):∃c,c<d.length/\aK d c<=a/\a<aK d (c+1):=by
 have m:∀e,e<=d.length->a<aK d e->∃c,c<e/\aK d c<=a/\a<aK d (c+1):=by
  intro e
  induction e with
  |zero=>intro _ f;exact absurd f (tW _)
  |succ e l=>
   intro n k;rcases bb a (aK d e) with g|g
   ·obtain⟨c,i,h⟩:=l U g;exact⟨c,U,h⟩
   ·exact⟨e,U,g,k⟩
 obtain⟨c,i,h⟩:=m d.length (aY _) (by rw[f.2];exact j);exact⟨c,i,h⟩
theorem S5 (b:List b3) (E:a<=200) (D:b.length<4611686018427387904):ae (AM (b,(a:Int),())) (λk=>(k.2.1=true↔mf a b)/\(mf a b->k.1=aq a (λg=>gS (aK b) g b.length))):=by
 classical
 unfold AM;refine ae.aW (P:=λx=>match x with|.inl k=>(∀c,c<b.length->oP a b c)/\k.1=aq (aK b b.length) (λg=>gS (aK b) g b.length)|.inr k=>¬mf a b/\k=([],false,())) ?_ ?_
 ·refine ae.for b.length (λc y=>(∀e,e<c->e<b.length->oP a b e)/\y.1=aq (aK b c) (λg=>gS (aK b) g c)) (i0:=0) rfl ⟨λe d=>by omega,rfl⟩ (bN _) ?_ ?_
  ·rintro c ⟨t,⟨⟩⟩ _ h ⟨m,i⟩;simp only at i;subst i;have u:∀e,e<c->e<b.length/\oP a b e:=λe s=>⟨U,m e s U⟩;have C:aK b c<=a:=by
    cases c with
    |zero=>exact bN _
    |succ c=>exact((u c U).2.at U).2.2.2
   have v:=fS (be h);simp(disch:=omega) only[bu,if_pos,v,aG,bi,dr];have o:¬(b[c].1=(aK b c:Int)/\(aK b c:Int)<b[c].2.1/\b[c].2.1<=(a:Int))->¬mf a b:=λd p=>(by obtain⟨G,f,n⟩:=p.1 c h;rw[be h] at f;simp only[bH] at f;subst f;exact d n);by_cases j:b[c].1=(aK b c:Int)
   ·by_cases z:b[c].2.1<=b[c].1
    ·simp only[j,decide_true,gG,show(false==false)=true from rfl,cond_true,az (U:b[c].2.1<=(aK b c:Int)),show(true==false)=false from rfl,cond_false,aG];exact ae.af.2 ⟨o (λd=>by omega),rfl⟩
    ·by_cases q:b[c].2.1>(a:Int)
     ·simp only[j,decide_true,gG,show(false==false)=true from rfl,cond_true,ay (U:¬b[c].2.1<=(aK b c:Int)),az q,aG];exact ae.af.2 ⟨o (λd=>by omega),rfl⟩
     ·have r:oP a b c:=⟨b[c],be h,j,U,U⟩;obtain⟨f,n,A,B⟩:=r.at h;have w:IntKind.i64.wrap (b[c].2.1-b[c].1)=((aK b (c+1)-aK b c:Nat):Int):=by
       rw[f,n,aby U U]
      simp only[j,decide_true,gG,show(false==false)=true from rfl,cond_true,ay (U:¬b[c].2.1<=(aK b c:Int)),ay q,cond_false,aG];rw[<-j];rw[w,RG _ U U];simp(disch:=omega) only[aG,m6,dZ,kb,bi];refine ae.af.2 ⟨rfl,λe s d=>?_,?_⟩
      ·rcases bb e c with l|l
       ·exact m e l d
       ·obtain rfl:e=c:=U;exact r
      ·show aq (aK b c) (λg=>gS (aK b) g c)++List.replicate (aK b (c+1)-aK b c) (c:Int)=_;rw[he,xw];have aj:aK b c+(aK b (c+1)-aK b c)=aK b (c+1):=U;rw[aj];refine bR λg F=>?_;simp only[hT.gS];by_cases l:g<aK b c
       ·rw[if_pos l,if_neg U]
       ·rw[if_neg l,if_pos U]
   ·simp only[ay j,hR,show(true==false)=false from rfl,cond_false,cond_true,aG];exact ae.af.2 ⟨o (λd=>j d.1),rfl⟩
  ·rintro⟨t,⟨⟩⟩ ⟨m,i⟩;simp only at i;subst i;simp(disch:=omega) only[bu,if_neg];exact ae.af.2 ⟨λc h=>m c h h,rfl⟩
 ·rintro(⟨t,⟨⟩⟩|k) d
  ·obtain⟨f,i⟩:=d;simp only at i;subst i;simp only[bi];refine ae.af.2 ⟨?_,λp=>?_⟩
   ·show(((aK b b.length:Nat):Int)==(a:Int))=true↔_;rw[beq_iff_eq];exact⟨λd=>⟨f,U⟩,λd=>by have:=d.2;omega⟩
   ·show aq (aK b b.length) _=_;rw[p.2]
  ·obtain⟨f,rfl⟩:=d;exact ae.af.2 ⟨⟨λd=>(by cases d),λd=>absurd d f⟩,λd=>absurd d f⟩
def pa (c:Nat) (a:b3) (b:Nat):Prop:=∀d:b<a.2.2.1.length,(b<(a.2.1-a.1).toNat->a.2.2.1[b]=a.1+(b:Int))/\((a.2.1-a.1).toNat<=b->a.2.1<=a.2.2.1[b]/\a.2.2.1[b]<(c:Int)/\a.2.2.1[b-1]<a.2.2.1[b])
def kD (c:Nat) (a:b3):Prop:=(a.2.1-a.1).toNat<=a.2.2.1.length/\∀b,0<=b->b<a.2.2.1.length->pa c a b
theorem aan {n:Nat} {x:b3} (o:0<=x.1) (p:x.1<x.2.1) (q:x.2.1<=(n:Int)) (s:n<=200) (r:x.2.2.1.length<4611686018427387904):AO (x,(n:Int),())=some ((open Classical in decide (kD n x)),()):=by
 classical
 obtain⟨d,j⟩:∃d:Nat,x.2.1-x.1=(d:Int):=⟨(x.2.1-x.1).toNat,U⟩;have t:(x.2.1-x.1).toNat=d:=U;unfold AO;simp only[j,CI (U:d<9223372036854775808),bu];by_cases l:d<=x.2.2.1.length
 ·rw[if_neg U];refine au (Bw (τ:=Unit) x.2.2.1.length (pa n x) () (.inl ()) (.inr (false,())) 0 rfl (bN _) ?_ ?_) ?_
  ·intro a _ e _;have i:=fS (be e);rw[if_pos U,i];simp only[aG,Dr,dr];by_cases m:a<d
   ·rw[if_pos U,wrap64 U U];simp only[aG];by_cases c:x.2.2.1[a]=x.1+(a:Int)
    ·have:pa n x a:=λ_=>⟨λ_=>c,λb=>by omega⟩;rw[if_pos this,az c];simp(disch:=omega) only[gG,cond_false,if_neg,aG,kb]
    ·have:¬pa n x a:=λb=>c ((b e).1 U);rw[if_neg this,ay c];rfl
   ·rw[if_neg U];simp only[aG,cond_false];rw[if_pos U];simp only[zk];have k:aA x.2.2.1 (IntKind.i64.wrap ((a:Int)-1))=some (x.2.2.1[a-1]'(by omega)):=by
     rw[GC U U];exact fS (be U)
    by_cases c:x.2.2.1[a]<x.2.1
    ·have:¬pa n x a:=λb=>(by have:=((b e).2 U).1;omega);rw[if_neg this,if_pos c];rfl
    ·rw[if_neg c];by_cases g:x.2.2.1[a]>=(n:Int)
     ·have:¬pa n x a:=λb=>(by have:=((b e).2 U).2.1;omega);rw[if_neg this,if_pos g];rfl
     ·rw[if_neg g,k];simp only[aG];by_cases h:x.2.2.1[a]<=x.2.2.1[a-1]
      ·have:¬pa n x a:=λb=>(by have:=((b e).2 U).2.2;omega);rw[if_neg this,if_pos h];rfl
      ·have:pa n x a:=λ_=>⟨λb=>by omega,λ_=>⟨U,U,U⟩⟩;rw[if_pos this,if_neg h];simp(disch:=omega) only[aG,kb]
  ·intro _;rw[if_neg U]
  ·by_cases f:∀a,0<=a->a<x.2.2.1.length->pa n x a
   ·rw[if_pos f,az (show kD n x from⟨U,f⟩)]
   ·rw[if_neg f,ay (show¬kD n x fromλb=>f b.2)]
 ·rw[if_pos U,ay (show¬kD n x fromλb=>by have:=b.1;omega)]
def eh (a:List b3) (b:Int):ab1:=((a[b.toNat]?).map λ(c:b3)=>c.2.2.1).getD []
def lC (c:List b3) (a:b3):Prop:=
 (a.2.2.1.length=(a.2.1-a.1).toNat/\a.2.2.2.1=-1)\/
 (∃d:(a.2.1-a.1).toNat<a.2.2.1.length,a.2.2.2.1=gS (aK c) (a.2.2.1[(a.2.1-a.1).toNat]).toNat c.length/\∀b,(a.2.1-a.1).toNat<=b->(e:b<a.2.2.1.length)->a.2.2.1[b]∈eh c a.2.2.2.1)
theorem kD.asc {b:b3} (h:0<=b.1) (i:b.1<b.2.1) (e:kD a b):b.2.2.1.Pairwise (· < ·):=by
 rw[x8];intro d f;have ar:=e.2 d (bN _) U U;have g:=e.2 (d+1) (bN _) f f;rcases bb (d+1) (b.2.1-b.1).toNat with c|c
 ·have:=ar.1 U;have:=g.1 c;omega
 ·have:=(g.2 c).2.2;simpa using this
theorem rx {b:List b3} (c:a<b.length):eh b (a:Int)=b[a].2.2.1:=by unfold eh;rw[dc,be c];rfl
theorem GG {v:Int} (e:c.length<4611686018427387904) (f:c.Pairwise (· < ·)):∃a,ss (c,v,())=some (a,decide (v∈c),()):=by obtain⟨⟨a,g,⟨⟩⟩,d,b⟩:=GH c v e f;simp only at b;exact⟨a,by rw[d,b]⟩
theorem VB {e:List b3} (Z:b<=200) (r:mf b e) (B:∀S∈e,S.2.2.1.length<4611686018427387904) (A:∀a,(h:a<e.length)->kD b e[a]) (l:a<e.length):AN (e,aq b (λD=>gS (aK e) D e.length),e[a],())=some ((open Classical in decide (lC e e[a])),()):=by
 classical
 have z:=(r.1 a l).at l;have u:=A a l;have L:=B _ (bI l);generalize ad:e[a]=c at z u L;obtain⟨V,W,X,Y⟩:=z;obtain⟨d,M⟩:∃d:Nat,c.2.1-c.1=(d:Int):=⟨(c.2.1-c.1).toNat,U⟩;have x:(c.2.1-c.1).toNat=d:=U;have N:=u.1;rw[x] at N;unfold AN;simp(disch:=omega) only[M,CI (U:d<9223372036854775808),s8,aG,u1,fe,m8,kz,bu,dT,dr];by_cases G:c.2.2.1.length=d
 ·rw[if_pos U];have:decide (c.2.2.2.1=-1)=decide (lC e c):=by
   rw[decide_eq_decide];unfold lC;rw[x];constructor
   ·intro h;exact .inl ⟨G,h⟩
   ·rintro(h|⟨h,_⟩)
    ·exact h.2
    ·omega
  rw[this]
 ·have q:d<c.2.2.1.length:=U;have ab:=(u.2 d (bN _) q q).2 U;obtain⟨n,y⟩:∃n:Nat,c.2.2.1[d]=(n:Int):=⟨(c.2.2.1[d]).toNat,U⟩;have R:n<b:=U;have F:aA (c.2.2.1.drop d) 0=some (n:Int):=by
   have:(c.2.2.1.drop d)[0]?=some (n:Int):=(by rw[iG,jM,be q,y]);exact fS (i:=0) this
  rw[if_neg U];simp(disch:=omega) only[F,aG,sS];obtain⟨g,j,O,P⟩:=uk r R;have w:gS (aK e) n e.length=(g:Int):=ze (m:=e.length) (λa l=>⟨l,r.1 a l⟩) j O P e.length j (aY _);rw[w];have t:lC e c↔c.2.2.2.1=(g:Int)/\∀f,0<=f->f<c.2.2.1.length-d->c.2.2.1.getD (d+f) 0∈e[g].2.2.1:=by
   unfold lC;rw[x];constructor
   ·rintro(h|⟨h,k,o⟩)
    ·omega
    ·rw[y,dc,w] at k;refine⟨k,λf _ K=>?_⟩;have:=o (d+f) U U;rw[k,rx j] at this;simp only[List.getD,be (U:d+f<c.2.2.1.length),kB];exact this
   ·rintro⟨k,o⟩;refine .inr ⟨q,by rw[y,dc,w,k],λf p H=>?_⟩;rw[k,rx j];have:=o (f-d) (bN _) U;have E:d+(f-d)=f:=U;rw[E] at this;simp only[List.getD,be H,kB] at this;exact this
  by_cases p:c.2.2.2.1=(g:Int)
  ·simp only[p,decide_true,gG,cond_false];have I:e[g].2.2.1.Pairwise (· < ·):=by
    have:=(r.1 g j).at j;exact(A g j).asc U U
   have Q:=B _ (bI j);refine au (Bw (τ:=Unit) (c.2.2.1.length-d) (λf=>c.2.2.1.getD (d+f) 0∈e[g].2.2.1) () (.inl ()) (.inr (false,())) 0 rfl (bN _) ?_ ?_) ?_
   ·intro f _ K _;have k:aA (c.2.2.1.drop d) (f:Int)=some (c.2.2.1.getD (d+f) 0):=by
     refine fS ?_;rw[iG];simp only[List.getD,be (U:d+f<c.2.2.1.length),kB]
    have o:aA e (g:Int)=some e[g]:=fS (be j);obtain⟨T,J⟩:=GG (v:=c.2.2.1.getD (d+f) 0) Q I;rw[if_pos U,k,o];simp only[aG,J];by_cases C:c.2.2.1.getD (d+f) 0∈e[g].2.2.1
    ·simp(disch:=omega) only[C,decide_true,gG,cond_false,if_true,kb]
    ·simp only[C,decide_false,hR,cond_true,if_false]
   ·intro _;rw[if_neg U]
   ·by_cases s:∀f,0<=f->f<c.2.2.1.length-d->c.2.2.1.getD (d+f) 0∈e[g].2.2.1
    ·rw[if_pos s,az (t.2 ⟨p,s⟩)]
    ·rw[if_neg s,ay (λh=>s (t.1 h).2)]
  ·simp only[ay p,hR,cond_true,ay (show¬lC e c fromλh=>p (t.1 h).1)]
section
theorem Tc {l:List b3} (A:a<=200) (D:l.length<4611686018427387904) (f:mf a l) (C:∀o∈l,o.2.2.1.length<4611686018427387904):Ad (l,(some (a:Int),()),())=some ((open Classical in decide (¬∀b,(c:b<l.length)->kD a l[b])),()):=by
 classical
 rw[<-ae.eq_iff];unfold Ad;refine ae.aW (P:=λk=>0<=k.1↔¬∀b,(c:b<l.length)->kD a l[b]) ?_ ?_
 ·unfold DB;refine ae.aW (EO l.length (λb=>∀c:b<l.length,kD a l[b]) ?_ ?_) ?_
  ·intro b d;have g:=fS (be d);obtain⟨p,q,r,s⟩:=(f.1 b d).at d;have i:=aan (n:=a) (x:=l[b]) U U U A (C _ (bI d));simp(disch:=omega) only[bu,if_pos,g,aG,DJ,i];by_cases c:kD a l[b]
   ·simp(disch:=omega) only[c,decide_true,gG,cond_false,d,forall_const,if_true,kb]
   ·simp only[c,decide_false,hR,cond_true,d,forall_const,if_false]
  ·simp(disch:=omega) only[bu,if_neg]
  ·rintro(⟨⟩|⟨m,⟨⟩⟩) c
   ·exact ae.af.2 ⟨λe=>by omega,λe=>absurd (λb d=>c b d d) e⟩
   ·exact ae.af.2 ⟨λ_ e=>c.2 (λj _ h=>e j h),λ_=>c.1⟩
 ·rintro⟨m,⟨⟩⟩ c;simp only at c;refine ae.af.2 ?_;simp only[ge_iff_le,c]
theorem Td {l:List b3} (A:a<=200) (D:l.length<4611686018427387904) (f:mf a l) (C:∀p∈l,p.2.2.1.length<4611686018427387904) (g:∀b,(c:b<l.length)->kD a l[b]):Ae (l,(some l,some (aq a (λo=>gS (aK l) o l.length)),()),())=some ((open Classical in decide (¬∀b,(c:b<l.length)->lC l l[b])),()):=by
 classical
 rw[<-ae.eq_iff];unfold Ae;refine ae.aW (P:=λm=>0<=m.1↔¬∀b,(c:b<l.length)->lC l l[b]) ?_ ?_
 ·unfold DC;refine ae.aW (EO l.length (λb=>∀c:b<l.length,lC l l[b]) ?_ ?_) ?_
  ·intro b d;have h:=fS (be d);have j:=VB A f C g d;simp(disch:=omega) only[bu,if_pos,h,aG,DK,j];by_cases c:lC l l[b]
   ·simp(disch:=omega) only[c,decide_true,gG,cond_false,d,forall_const,if_true,kb]
   ·simp only[c,decide_false,hR,cond_true,d,forall_const,if_false]
  ·simp(disch:=omega) only[bu,if_neg]
  ·rintro(⟨⟩|⟨n,⟨⟩⟩) c
   ·exact ae.af.2 ⟨λe=>by omega,λe=>absurd (λb d=>c b d d) e⟩
   ·exact ae.af.2 ⟨λ_ e=>c.2 (λk _ i=>e k i),λ_=>c.1⟩
 ·rintro⟨n,⟨⟩⟩ c;simp only at c;refine ae.af.2 ?_;simp only[ge_iff_le,c]
def NH (aI:c7) (l:List b3) (b a:Nat):Prop:=b<a->(a:Int)∈eh l (gS (aK l) b l.length)
def ho (aI:c7) (l:List b3):Prop:=mf aI.length l/\(∀a,(d:a<l.length)->kD aI.length l[a])/\(∀a,(d:a<l.length)->lC l l[a])/\∀c b,b1 aI c b->NH aI l c b
def A7 (aI:c7) (l:List b3):Int:=if gO aI≠0 then gO aI else(open Classical in if ho aI l then 0 else 211)
section
variable {aI:c7} (B:b2 aI) (A:aI.length<=200) {l:List b3} (D:l.length<4611686018427387904) (C:∀y∈l,y.2.2.1.length<4611686018427387904)
include B A D C
theorem Up:uN ((aI,()),l,())=some ((open Classical in if ho aI l then 0 else 211),()):=by
 classical
 have N:=B.hc A;unfold uN;simp only[yE aI N,qy.2 ⟨A,B⟩,aG,dr,decide_true,gG,cond_false];obtain⟨⟨ab,H,⟨⟩⟩,J,t,z⟩:=S5 l A D;simp only at t z;simp only[J,aG,zk];by_cases f:mf aI.length l
 ·have w:=t.2 f;have R:=z f;subst w R;simp only[gG,show(false==false)=true from rfl,cond_true,Tc A D f C,aG];by_cases i:∀b,(c:b<l.length)->kD aI.length l[b]
  ·simp only[i,implies_true,not_true_eq_false,decide_false,cond_false,aG,Td A D f C i];by_cases n:∀b,(c:b<l.length)->lC l l[b]
   ·simp only[n,implies_true,not_true_eq_false,decide_false,cond_false];have u:ho aI l↔∀a,0<=a->a<aI.length->∀c:a<aI.length,∀b,0<=b->b<aI[a].length->∀d:b<aI[a].length,aI[a][b]<=(a:Int)->(a:Int)∈eh l (gS (aK l) aI[a][b].toNat l.length):=by
     constructor
     ·rintro⟨_,_,_,K⟩ a _ _ c b _ _ d E;have V:=(B.asc a c).2 _ (bI d);obtain⟨e,p⟩:∃e:Nat,aI[a][b]=(e:Int):=⟨aI[a][b].toNat,U⟩;have q:b1 aI a e:=⟨c,p▸bI d⟩;have Y:=q.ne B;rw[p,dc];exact K e a (b1.symm B _ _ q) U
     ·intro c;refine⟨f,i,n,λe a q X=>?_⟩;have x:=b1.symm B _ _ q;obtain⟨b,d,k⟩:=fH.1 x.2;have:=c a (bN _) x.1 x.1 b (bN _) d d U;rw[k,dc] at this;exact this
    rw[show(if ho aI l then(0:Int) else 211)=if(∀a,0<=a->a<aI.length->∀c:a<aI.length,∀b,0<=b->b<aI[a].length->∀d:b<aI[a].length,aI[a][b]<=(a:Int)->(a:Int)∈eh l (gS (aK l) aI[a][b].toNat l.length)) then 0 else 211 from by simp only[u]];refine au (Bw (τ:=ab1×Unit) aI.length (λa=>∀c:a<aI.length,∀b,0<=b->b<aI[a].length->∀d:b<aI[a].length,aI[a][b]<=(a:Int)->(a:Int)∈eh l (gS (aK l) aI[a][b].toNat l.length)) (aq aI.length (λj=>gS (aK l) j l.length),()) (.inl ()) (.inr (211,())) 0 rfl (bN _) ?_ ?_) ?_
    ·intro a _ o _;have O:=fS (be o);have Z:=B.rows _ (bI o);simp(disch:=omega) only[bu,if_pos,O,aG];refine au (Bw (τ:=ab1×Unit) aI[a].length (λb=>∀d:b<aI[a].length,aI[a][b]<=(a:Int)->(a:Int)∈eh l (gS (aK l) aI[a][b].toNat l.length)) (aq aI.length (λj=>gS (aK l) j l.length),()) (.inl (aq aI.length (λj=>gS (aK l) j l.length),())) (.inr (.inr (.inr (211,())))) 0 rfl (bN _) ?_ ?_) ?_
     ·intro b _ d _;have P:=fS (be d);have V:=(B.asc a o).2 _ (bI d);obtain⟨e,p⟩:∃e:Nat,aI[a][b]=(e:Int):=⟨aI[a][b].toNat,U⟩;simp(disch:=omega) only[if_pos,P,aG,p,d,forall_const,dc];by_cases y:(e:Int)>(a:Int)
      ·have:(e:Int)<=(a:Int)->(a:Int)∈eh l (gS (aK l) e l.length):=λc=>U;rw[if_pos y,if_pos this];simp(disch:=omega) only[aG,kb]
      ·obtain⟨h,g,S,T⟩:=uk f (U:e<aI.length);have Q:gS (aK l) e l.length=(h:Int):=ze (m:=l.length) (λb d=>⟨d,f.1 b d⟩) g S T l.length g (aY _);have I:aA l (h:Int)=some l[h]:=fS (be g);have L:l[h].2.2.1.Pairwise (· < ·):=by
        have:=(f.1 h g).at g;exact(i h g).asc U U
       obtain⟨W,M⟩:=GG (v:=(a:Int)) (C _ (bI g)) L;rw[if_neg y];simp(disch:=omega) only[sS,aG,Q,I,M,rx g];have E:(e:Int)<=(a:Int):=U;by_cases F:(a:Int)∈l[h].2.2.1
       ·simp(disch:=omega) only[F,decide_true,gG,cond_false,aG,implies_true,if_true,kb]
       ·simp(disch:=omega) only[F,E,decide_false,hR,cond_true,aG,forall_const,if_false]
     ·intro _;simp(disch:=omega) only[if_neg]
     ·have k:(∀c:a<aI.length,∀b,0<=b->b<aI[a].length->∀d:b<aI[a].length,aI[a][b]<=(a:Int)->(a:Int)∈eh l (gS (aK l) aI[a][b].toNat l.length))↔(∀b,0<=b->b<aI[a].length->∀d:b<aI[a].length,aI[a][b]<=(a:Int)->(a:Int)∈eh l (gS (aK l) aI[a][b].toNat l.length)):=⟨λs=>s o,λs _=>s⟩;by_cases r:∀b,0<=b->b<aI[a].length->∀d:b<aI[a].length,aI[a][b]<=(a:Int)->(a:Int)∈eh l (gS (aK l) aI[a][b].toNat l.length)
      ·simp(disch:=omega) only[if_pos r,if_pos (k.2 r),kb]
      ·simp only[if_neg r,if_neg (λc=>r (k.1 c))]
    ·intro _;simp(disch:=omega) only[bu,if_neg]
    ·by_cases G:ho aI l
     ·simp only[if_pos (u.1 G)]
     ·simp only[if_neg (λc=>G (u.2 c))]
   ·have:¬ho aI l:=λc=>n c.2.2.1;simp only[n,not_false_eq_true,decide_true,cond_true,if_neg this]
  ·have:¬ho aI l:=λc=>i c.2.1;simp only[i,not_false_eq_true,decide_true,cond_true,if_neg this,aG]
 ·have w:H=false:=by
   cases H
   ·rfl
   ·exact absurd (t.1 rfl) f
  have:¬ho aI l:=λc=>f c.1;simp only[w,hR,show(true==false)=false from rfl,cond_false,if_neg this,aG]
end
section
variable {aI:c7} (B:b2 aI) (A:aI.length<=200) {l:List b3} (D:l.length<4611686018427387904) (C:∀y∈l,y.2.2.1.length<4611686018427387904)
include B A D C
end
theorem Rq {aI:c7} (b:∀l∈aI,l.length<4611686018427387904) {l:List b3} (D:l.length<4611686018427387904) (C:∀c∈l,c.2.2.1.length<4611686018427387904):uN ((aI,()),l,())=some (A7 aI l,()):=by
 unfold A7;by_cases a:gO aI=0
 ·obtain⟨A,B⟩:=qy.1 a;rw[if_neg (by simpa using a)];exact Up B A D C
 ·rw[if_pos a];unfold uN;simp only[yE aI b,aG,dr,ay a,hR,cond_true]
end
section
def gB (a:ab0):ab1:=a.map λ(b:Nat)=>(b:Int)
theorem Kv (a b:ab0):gB (a++b)=gB a++gB b:=by simp[gB]
theorem vf (a:ab0):(gB a).length=a.length:=by simp[gB]
section
variable {n:Nat} {f:Nat->Int} (A:CP n f) (B:n<=200)
include A B
end
end
section
theorem lW {b:List p} (d:a<b.length) (c:p):b.getD a c=b[a]:=by simp only[List.getD,be d,kB]
section
variable {aI:c7} (A:b2 aI) (B:aI.length<=200)
include A B
end
end
section
theorem Do {aI:c7} (A:b2 aI) (c:e∈bk aI a):∃b:Nat,e=(b:Int)/\b<aI.length/\a<=b:=by have d:=c;unfold bk jc at c;simp only[bT] at c;obtain⟨b,_,rfl⟩:=c;have:=mJ.1 d;exact⟨b,rfl,this.1,this.2.le⟩
section
variable {aI:c7} (A:b2 aI) (B:aI.length<=200)
include A B
section
variable {C:ab1} {m:Nat} {s e:Nat->Nat} (D:NE aI.length (pP aI)) (G:G3 aI.length (pP aI) C m s e)
include D G
end
def lB (a:List b3) (c b:Nat):Prop:=b<a.length/\aK a b<=c/\c<aK a (b+1)
omit A B in
theorem lB.last {c:List b3} (f:mf h c) (d:lB c b a):gS (aK c) b c.length=(a:Int):=
 ze (m:=c.length) (λg e=>⟨e,f.1 g e⟩) d.1 d.2.1 d.2.2 c.length d.1 (aY _)
theorem Z2 {e:List b3} (N:ho aI e) (w:lB e b a) (bB:b<=h):∀n d,d+n=a->d<e.length->aK e d<=b->(b:Int)∈eh e (d:Int)->(h:Int)∈eh e (d:Int)->(h:Int)∈eh e (a:Int):=by
 obtain⟨k,O,L,_⟩:=N;intro n
 induction n using Nat.strongRecOn with
 |ind n Y=>
  intro d a4 o bl H z;rcases g7 n with C|C
  ·subst C;have:d=a:=U;rw[<-this];exact z
  ·obtain⟨Z,A,ab,ad⟩:=(k.1 d o).at o;have av:=wq (m:=e.length) (λq j=>⟨j,k.1 q j⟩) (d+1) a U (by have:=w.1;omega);have ap:aK e (d+1)<=b:=(by have:=w.2.1;omega);rw[rx o] at H z;have v:=O d o;have M:=L d o;have P:=v.asc U U;have R:=gx.1 P;generalize am:e[d]=c at*;have a0:(c.2.1-c.1).toNat=aK e (d+1)-aK e d:=U;obtain⟨p,y,s⟩:=fH.1 H;obtain⟨I,F,B⟩:=fH.1 z;have E:∀l,(x:l<c.2.2.1.length)->c.2.1<=c.2.2.1[l]->(c.2.1-c.1).toNat<=l:=λl x an=>by
    rcases bb l (c.2.1-c.1).toNat with g|g
    ·have:=(v.2 l (bN _) x x).1 g;omega
    ·exact g
   have W:=E p y (by rw[s,A];omega);have X:=E I F (by rw[B,A];omega);rcases M with⟨g,_⟩|⟨g,u,D⟩
   ·omega
   ·have V:=(v.2 _ (bN _) g g).2 (aY _);obtain⟨r,t⟩:∃r:Nat,c.2.2.1[(c.2.1-c.1).toNat]=(r:Int):=⟨(c.2.2.1[(c.2.1-c.1).toNat]).toNat,U⟩;rw[t] at V;obtain⟨f,G,S,T⟩:=uk k (U:r<aI.length);have Q:=lB.last k (⟨G,S,T⟩:lB e r f);rw[t,dc,Q] at u;have bs:r<=b:=by
     rcases bb (c.2.1-c.1).toNat p with i|i
     ·have:=R _ p g y i;rw[t,s] at this;omega
     ·have K:p=(c.2.1-c.1).toNat:=U;subst K;rw[t] at s;omega
    have bd:d<f:=by
     rcases bb d f with i|i
     ·exact i
     ·have:=wq (m:=e.length) (λq j=>⟨j,k.1 q j⟩) (f+1) (d+1) U U;omega
    have a3:f<=a:=by
     rcases bb a f with i|i
     ·have:=wq (m:=e.length) (λq j=>⟨j,k.1 q j⟩) (a+1) f U U;have:=w.2.2;omega
     ·exact i
    have ar:=D p W y;have J:=D I X F;rw[u,s] at ar;rw[u,B] at J;exact Y (a-f) U f U G U ar J
theorem Uy {i:List b3} (v:ho aI i):∀a b,lB i a b->∀c,a<c->(c:Int)∈bk aI a->(c:Int)∈eh i (b:Int):=by
 have q:=b1.symm A;obtain⟨l,O,N,H⟩:=id v;have M:∀a b,lB i a b->∀c,a<c->(∃h,b1 aI c h/\gF (b1 aI) h a)->(c:Int)∈eh i (b:Int):=by
  intro a
  induction a using Nat.strongRecOn with
  |ind a z=>
   rintro b d c p ⟨h,j,w⟩;have R:a<aI.length:=(by have t:=(l.1 b d.1).at d.1;have:=d.2.2;omega);have P:=w.le;rcases(Sub.Vs (n:=aI.length) (f:=pP aI)).1 ((MJ A B).2 w) with e|⟨k,t,E⟩
   ·subst e;have:=H h c (q _ _ j) p;rw[d.last l] at this;exact this
   ·have x:=(FC A B).1 E;have o:=x.1;obtain⟨g,r,C,D⟩:=uk l (U:k<aI.length);have y:lB i k g:=⟨r,C,D⟩;have F:=z k o g y c U ⟨h,j,(MJ A B).1 t⟩;obtain⟨L,K,I⟩:=(Cl q o).1 (x.fill.mono (aY _));have G:=z k o g y a o ⟨L,K,I⟩;have Q:g<=b:=by
     rcases bb b g with u|u
     ·have:=wq (m:=i.length) (λh j=>⟨j,l.1 h j⟩) (b+1) g U U;have:=d.2.2;omega
     ·exact u
    exact Z2 A B v d U (b-g) g U r U G F
 intro a b d c p J;rcases(mJ.1 J).2 with s|⟨_,s⟩
 ·omega
 ·exact M a b d c p ((Cl q p).1 s)
theorem Uz {b:List b3} (h:ho aI b) {v q:Nat} (a:lB b v q) {k:Int} (j:k∈bk aI v):k∈eh b (q:Int):=by
 obtain⟨c,rfl,s,t⟩:=Do A j;rcases bb v c with g|g
 ·exact Uy A B h v q a c g j
 ·obtain rfl:c=v:=U;obtain⟨l,m,_⟩:=h;have u:=a.1;obtain⟨n,o,p,r⟩:=(l.1 q a.1).at a.1;have i:=m q a.1;rw[rx a.1];have f:c-aK b q<b[q].2.2.1.length:=(by have:=i.1;have:=a.2.2;have:=a.2.1;omega);have:=(i.2 (c-aK b q) (bN _) f f).1 (by have:=a.2.2;have:=a.2.1;omega);have d:=bI f;rw[this] at d;have e:b[q].1+((c-aK b q:Nat):Int)=(c:Int):=(by have:=a.2.1;omega);rw[e] at d;exact d
end
end
theorem ho.parent {b:List b3} (r:ho g b) (h:a<b.length):(b[a].2.2.2.1=-1\/∃d:Nat,b[a].2.2.2.1=(d:Int)/\d<b.length)/\∀c,(e:c<b[a].2.2.1.length)->b[a].2.1<=b[a].2.2.1[c]->∃d:Nat,b[a].2.2.2.1=(d:Int)/\d<b.length/\b[a].2.2.1[c]∈eh b (d:Int):=by
 obtain⟨l,s,q,_⟩:=r;obtain⟨z,A,B,C⟩:=(l.1 a h).at h;have m:=s a h;rcases q a h with⟨j,f⟩|⟨j,f,p⟩
 ·refine⟨.inl f,λc e v=>?_⟩;have:=(m.2 c (bN _) e e).1 U;omega
 ·have y:=(m.2 _ (bN _) j j).2 (aY _);obtain⟨i,o⟩:∃i:Nat,b[a].2.2.1[(b[a].2.1-b[a].1).toNat]=(i:Int):=⟨(b[a].2.2.1[(b[a].2.1-b[a].1).toNat]).toNat,U⟩;rw[o] at y;obtain⟨d,n,w,x⟩:=uk l (U:i<g.length);have u:=lB.last l (⟨n,w,x⟩:lB b i d);rw[o,dc,u] at f;refine⟨.inr ⟨d,f,n⟩,λc e v=>?_⟩;refine⟨d,f,n,?_⟩;have t:(b[a].2.1-b[a].1).toNat<=c:=by
   rcases bb c (b[a].2.1-b[a].1).toNat with k|k
   ·have:=(m.2 c (bN _) e e).1 k;omega
   ·exact k
  have:=p c t e;rw[f] at this;exact this
structure r1 {α:Type} (lt:α->α->Bool):Prop where
 Sd:∀a b,lt a b=true->lt b a=false
 trans:∀a b c,lt b a=false->lt c b=false->lt c a=false
theorem r1.int:r1 (λa b:Int=>decide (a<b)):=⟨λa b c=>by simp at c|-;omega,λa b f d e=>by simp at d e|-;omega⟩
def tK {b:Type} (g:b->b->Bool) (c:Nat->b) (e f:Nat):Prop:=∀d a,d<a->a<=e->a≠f->g (c a) (c d)=false
def r3 {b:Type} (f:b->b->Bool) (c:Nat->b) (e:Nat):Prop:=∀d a,d<a->a<e->f (c a) (c d)=false
def swp {c:Type} (b:Nat->c) (a:Nat):Nat->c:=bZ (bZ b a (b (a-1))) (a-1) (b a)
theorem MP (b:Nat->p) (c:Nat):swp b a c=if c=a-1 then b a else if c=a then b (a-1) else b c:=rfl
theorem tK.swp {k:Type} {h:k->k->Bool} (m:r1 h) {f:Nat->k} {j a:Nat} (g:tK h f j a) (q:0<a) (r:a<=j) (n:h (f a) (f (a-1))=true):tK h (swp f a) j (a-1):=by
 intro e b p i o;rw[MP,MP,if_neg o];by_cases c:b=a
 ·subst c;rw[if_pos rfl];by_cases d:e=b-1
  ·rw[if_pos d];exact m.Sd _ _ n
  ·rw[if_neg d,if_neg U];exact g e (b-1) U U U
 ·rw[if_neg c];by_cases d:e=a-1
  ·rw[if_pos d];exact g a b U i c
  ·rw[if_neg d];by_cases l:e=a
   ·rw[if_pos l];exact g (a-1) b U i c
   ·rw[if_neg l];exact g e b p i c
theorem tK.done {e:p->p->Bool} (j:r1 e) {d:Nat->p} (i:tK e d b a) (m:a<=b) (c:a=0\/e (d a) (d (a-1))=false):r3 e d (b+1):=by
 intro g f l n;by_cases h:f=a
 ·subst h;rcases c with c|c
  ·omega
  ·by_cases k:g=f-1
   ·subst k;exact c
   ·exact j.trans _ _ _ (i g (f-1) U U U) c
 ·exact i g f l U h
theorem aaR {c:Nat->p} (g:0<a) (f:a<b):(aq b (swp c a)).Perm (aq b c):=by have d:a<(aq b c).length:=(by rw[bi];exact f);have e:a-1<(aq b c).length:=(by rw[bi];omega);have:=List.set_set_perm d e;rw[gh,gh,fA,fA] at this;exact this
theorem IU [Inhabited p] (a:List p):a=aq a.length (λb=>a[b]?.getD default):=IS a _ (λb c=>by simp[c])
theorem U5 (b:ab1) (C:b.length<=1000):ae (Ai (b,0,(b.length:Int),())) (λe=>∃a,e.1=aq b.length a/\r3 (λf g=>decide (f<g)) a b.length/\e.1.Perm b):=by
 unfold Ai;simp only[];generalize o:b.length=d at*;have u:IntKind.i64.wrap (0+1)=((1:Nat):Int):=(by rw[wrap64]<;>omega);rw[u];rcases g7 d with z|w
 ·subst z;refine ae.aW (P:=λe=>e.1=b) ?_ ?_
  ·refine ae.loop (λk=>k=(((1:Nat):Int),b,())) (λ_=>0) rfl ?_;rintro _ rfl;simp only[bu];rw[if_neg U];exact ae.af.2 rfl
  ·rintro⟨e,_⟩ rfl;refine ae.af.2 ⟨λ_=>0,?_,λp q r s=>by omega,List.Perm.refl _⟩;show e=[];exact k2 o
 refine ae.aW (P:=λe=>∃a,e.1=aq d a/\r3 (λf g=>decide (f<g)) a d/\e.1.Perm b) ?_ (λe y=>ae.af.2 y);refine ae.for d (λi A=>∃a,A=(aq d a,())/\r3 (λf g=>decide (f<g)) a i/\(aq d a).Perm b) rfl ⟨λi=>b[i]?.getD default,?_,λp q r s=>by omega,?_⟩ w ?_ ?_
 ·rw[<-o,<-IU]
 ·rw[<-o,<-IU]
 ·rintro i _ r s ⟨a,rfl,j,h⟩;simp only[bu];rw[if_pos U];refine ae.aW (P:=λe=>∃a,e=(aq d a,())/\r3 (λf g=>decide (f<g)) a (i+1)/\(aq d a).Perm b) ?_ ?_
  ·refine ae.loop (λk=>∃(c:Nat) (a:Nat->Int),k=((c:Int),aq d a,())/\c<=i/\tK (λf g=>decide (f<g)) a i c/\(aq d a).Perm b) (λk=>k.1.toNat) ⟨i,a,rfl,aY _,λp q x E D=>j p q x U,h⟩ ?_;rintro _ ⟨c,a,rfl,n,m,h⟩;simp only[Dr];by_cases t:0<c
   ·have B:c-1<d:=U;have v:c<d:=U;simp(disch:=omega) only[if_pos,bi,GC,dy,dw,aG,GV,bu];by_cases l:a c<a (c-1)
    ·rw[if_pos l];simp(disch:=omega) only[aG,bi,GC,dy,dw,fA];refine ae.af.2 ⟨⟨c-1,swp a c,rfl,U,m.swp r1.int t n (by simpa using l),(aaR t v).trans h⟩,?_⟩;show((c-1:Nat):Int).toNat<((c:Nat):Int).toNat;omega
    ·rw[if_neg l];exact ae.af.2 ⟨a,rfl,m.done r1.int n (.inr (by simpa using l)),h⟩
   ·rw[if_neg U];exact ae.af.2 ⟨a,rfl,m.done r1.int n (.inl U),h⟩
  ·rintro _ ⟨a,rfl,j,h⟩;simp(disch:=omega) only[kb];exact ae.af.2 ⟨rfl,a,rfl,j,h⟩
 ·rintro _ ⟨a,rfl,j,h⟩;simp only[bu];rw[if_neg U];exact ae.af.2 ⟨a,rfl,j,h⟩
theorem r3.pairwise (d:r3 (λb c=>decide (b<c)) k a):(aq a k).Pairwise (· <= ·):=by rw[gx];intro g h i f e;rw[gh,gh];have:=d g h e (by simpa[bi] using f);simpa using this
theorem Rw (a:Nat) (c:a<=12):∃b,Dw ((a:Int),())=some (b,()):=by
 have:a=0\/a=1\/a=2\/a=3\/a=4\/a=5\/a=6\/a=7\/a=8\/a=9\/a=10\/a=11\/a=12:=U;rcases this with rfl|rfl|rfl|rfl|rfl|rfl|rfl|rfl|rfl|rfl|rfl|rfl|rfl
 ·exact⟨0,by kernel_rfl⟩
 ·exact⟨1,by kernel_rfl⟩
 ·exact⟨2,by kernel_rfl⟩
 ·exact⟨2,by kernel_rfl⟩
 ·exact⟨3,by kernel_rfl⟩
 ·exact⟨3,by kernel_rfl⟩
 ·exact⟨3,by kernel_rfl⟩
 ·exact⟨3,by kernel_rfl⟩
 ·exact⟨4,by kernel_rfl⟩
 ·exact⟨4,by kernel_rfl⟩
 ·exact⟨4,by kernel_rfl⟩
 ·exact⟨4,by kernel_rfl⟩
 ·exact⟨4,by kernel_rfl⟩
theorem Y9 (a:ab1) (c:Int) (j:a.length<=12):ae (Ak (a,0,(a.length:Int),c,())) (λb=>b.1.Pairwise (· <= ·)/\b.1.Perm a):=by obtain⟨b,g,i,f,e,d⟩:=U5 a U;refine⟨b,?_,by rw[f];exact e.pairwise,d⟩;unfold Ak;dsimp only;rw[VI];dsimp only;have h:IntKind.i64.wrap ((a.length:Int)-0)=((a.length:Nat):Int):=(by rw[Int.sub_zero];exact CI U);simp only[h,bu];rw[if_pos U,g];rfl
theorem RI (a:ab1) (c:a.length<=12):ae (wX (a,())) (λb=>b.1.Pairwise (· <= ·)/\b.1.Perm a):=by unfold wX;simp only[];rw[Nt _ U U];obtain⟨d,e⟩:=Rw a.length c;rw[e];simp only[aG];exact ae.aW (Y9 a d c) (λb f=>ae.af.2 f)
section
open Go
theorem S9 (p:c.Pairwise (· <= ·)):(Lib.compact c).length<c.length↔¬c.Nodup:=by
 have n:(Lib.compact c).length=((List.range c.length).filter (Lib.keeps c.toArray)).length:=(by simp[Lib.compact,Lib.compactUpTo]);have l:(∀a,a<c.length->Lib.keeps c.toArray a=true)↔c.Nodup:=by
  have j:∀a,(b:a<c.length)->(Lib.keeps c.toArray a=true↔a=0\/c[a]≠c[a-1]):=λa b=>(by have g:a-1<c.length:=U;simp[Lib.keeps,b,g]);constructor
  ·intro b;have o:c.Pairwise (· < ·):=by
    rw[x8];intro f i;have d:=(j (f+1) i).1 (b _ i);have g:=gx.1 p f (f+1) U i U;have q:c[f+1]≠c[f]:=by rcases d with d|d;omega;exact d
    omega
   exact o.imp (λb=>by omega)
  ·intro b a e;rw[j a e];by_cases k:a=0
   ·exact .inl k
   ·refine .inr λh=>?_;have:=(List.getElem_inj b).1 h;omega
 rw[<-l,n];have m:=h6 (Lib.keeps c.toArray) (List.range c.length);rw[qf] at m;constructor
 ·intro b g;rw[mm.2 (λa e=>g a (fd.1 e)),qf] at b;omega
 ·intro b;rcases bb ((List.range c.length).filter (Lib.keeps c.toArray)).length c.length with d|d
  ·exact d
  ·refine absurd (λa e=>?_) b;have h:((List.range c.length).filter (Lib.keeps c.toArray)).length=(List.range c.length).length:=(by rw[qf];omega);exact List.length_filter_eq_length_iff.1 h a (fd.2 e)
theorem aa1 (a:ab1) (e:a.length<=12):zP (a,())=some (decide (¬a.Nodup),()):=by obtain⟨c,g,h,b⟩:=RI a e;have f:=b.length_eq;unfold zP yw;simp only[g,fe,aG];rw[show Nat.ble a.length 1000000=true from Nat.ble_eq_true_of_le U];simp only[cond_true];rw[show Nat.ble c.1.length 1000000=true from Nat.ble_eq_true_of_le U];simp only[cond_true,fe];have d:decide ((Lib.compact c.1).length<a.length)=decide (¬a.Nodup):=(by rw[decide_eq_decide,<-f,S9 h,b.nodup_iff]);rw[d]
def gM (a:Nat) (b:Nat->Nat->Bool):c5:=aq a λc=>aq a (b c)
theorem xQ (a:Nat) (b:Nat->Nat->Bool):(gM a b).length=a:=bi a _
theorem u9 {d:Nat->Nat->Bool} (e:∀b c,b<a->c<a->l b c=d b c):gM a l=gM a d:=bR λb f=>bR λc g=>e b c f g
theorem GX (a:Nat) (g:a<=4294967296):wN ((a:Int),())=some (gM a λ_ _=>false,()):=by
 unfold wN;simp only[];rw[gT g];simp only[aG];refine au (y:=(gM a λ_ _=>false,())) (xN a (λc=>(aq a (λb=>if b<c then List.replicate a false else[]),())) 0 rfl ?_ (bN _) ?_ ?_) rfl
 ·rw[he];simp
 ·intro c _ h;simp(disch:=omega) only[bi,m6,bu,if_pos,aG,dy,dw,fA,kb];congr 4;refine bR λb f=>?_;simp only[bZ];by_cases d:b=c
  ·subst d;rw[if_pos rfl,if_pos U]
  ·rw[if_neg d];by_cases e:b<c
   ·rw[if_pos e,if_pos U]
   ·rw[if_neg e,if_neg U]
 ·simp only[m6,bu];rw[if_neg U];congr 2;refine congrArg (·,()) (bR λb f=>?_);rw[if_pos f,he]
theorem GR {n:Nat} {B:Nat->Nat->Bool} {i j:Nat} (o:i<n) (p:j<n):wQ (gM n B,(i:Int),(j:Int),())=some (gM n (λb a=>B b a||(decide (i≠j)&&((decide (b=i)&&decide (a=j))||(decide (b=j)&&decide (a=i))))),()):=by
 unfold wQ;simp only[dr];by_cases c:i=j
 ·subst c;simp only[decide_true,gG,cond_false];congr 2;exact u9 λb a _ _=>by simp
 ·rw[ay (U:¬((i:Int)=(j:Int)))];unfold gM;simp(disch:=omega) only[hR,cond_true,bi,dy,aG,dw,fe,fA];rw[show bZ (λl=>aq n (B l)) i (aq n (bZ (B i) j true)) j=aq n (B j) from eG _ _ (λf=>c f.symm)];simp(disch:=omega) only[bi,dy,aG,dw,fe,fA];congr 2;refine bR λb m=>?_;simp only[bZ];by_cases d:b=j
  ·rw[if_pos d,d];refine bR λa k=>?_;simp only[bZ];have h:¬j=i:=λf=>c f.symm;by_cases e:a=i
   ·simp[e,h,c]
   ·simp[e,h,c]
  ·rw[if_neg d];by_cases g:b=i
   ·subst g;rw[if_pos rfl];refine bR λa k=>?_;simp only[bZ];by_cases e:a=j
    ·simp[e,c]
    ·simp[e,d]
   ·rw[if_neg g];refine bR λa k=>?_;simp[d,g]
theorem Rx (i:b<=4294967296) (f:a<b):zM (gM b l,(a:Int),())=some (gB ((List.range b).filter (l a)),()):=by
 unfold zM;simp only[];rw[show aA (gM b l) (a:Int)=some (aq b (l a)) from sS f];simp only[aG];refine au (y:=(gB ((List.range b).filter (l a)),())) (xN b (λc=>(gB ((List.range c).filter (l a)),())) 0 rfl rfl (bN _) ?_ ?_) rfl
 ·intro c _ g;have h:(gB ((List.range c).filter (l a))).length<=c:=(by rw[vf];have:=h6 (l a) (List.range c);simpa using this);have e:gB ((List.range (c+1)).filter (l a))=if l a c=true then gB ((List.range c).filter (l a))++[(c:Int)] else gB ((List.range c).filter (l a)):=by
   rw[iZ,iX,Kv];by_cases d:l a c=true<;>simp[d,gB]
  simp(disch:=omega) only[bi,bu,if_pos,sS,aG,kb];rw[e];by_cases d:l a c=true
  ·rw[if_pos d,d,dZ (by simp only[yM];omega)];rfl
  ·rw[if_neg d,Bool.eq_false_iff.2 d];rfl
 ·simp only[bi,bu];rw[if_neg U]
def g4 (a:Nat) (b:Nat->Nat->Bool):c7:=aq a λc=>gB ((List.range a).filter (b c))
theorem GO (g:a<=4294967296):wP (gM a l,())=some ((g4 a l,()),()):=by
 unfold wP;simp only[xQ];rw[gT g];simp only[aG];refine au (y:=(([],()),(g4 a l,()),())) (xN a (λc=>(([],()),(aq a (λb=>if b<c then gB ((List.range a).filter (l b)) else[]),()),())) 0 rfl ?_ (bN _) ?_ ?_) rfl
 ·rw[he];simp
 ·intro c _ h;simp(disch:=omega) only[bu,if_pos,Rx,aG,bi,dy,dw,fe,fA,kb];congr 6;refine bR λb f=>?_;simp only[bZ];by_cases d:b=c
  ·subst d;rw[if_pos rfl,if_pos U]
  ·rw[if_neg d];by_cases e:b<c
   ·rw[if_pos e,if_pos U]
   ·rw[if_neg e,if_neg U]
 ·simp only[bu];rw[if_neg U];have:(aq a λb=>if b<a then gB ((List.range a).filter (l b)) else[])=g4 a l:=bR λb f=>(by rw[if_pos f]);rw[this]
end
section
open Go
def eZ (a:ab1) (b:Nat):Prop:=a.length=b/\(∀c∈a,0<=c/\c<(b:Int))/\a.Nodup
open Classical in
theorem RB (a:ab1) (d:Nat) (D:d<=4294967296):Aq (a,(d:Int),())=some (decide (eZ a d),()):=by
 unfold Aq;simp only[dr];by_cases t:a.length=d
 ·rw[az (U:(((a.length:Nat):Int)=(d:Int)))];simp only[gG,cond_false,gT D,aG,he];rw[<-ae.eq_iff];refine ae.aW (P:=λm=>match m with|.inl _=>eZ a d|.inr F=>F=(false,())/\¬eZ a d) ?_ ?_
  ·refine ae.for d (λb G=>G=(aq d (λn=>decide ((n:Int)∈a.take b)),())/\(∀e,(c:e<a.length)->e<b->0<=a[e]/\a[e]<(d:Int))/\(a.take b).Nodup) (i0:=0) rfl ⟨ac,λe _ c=>by omega,ac⟩ (bN _) ?_ ?_
   ·rintro b _ _ J ⟨rfl,l,h⟩;have j:b<a.length:=U;have s:aA a (b:Int)=some a[b]:=fS (be j);have v:a[b]∈a:=bI j;simp(disch:=omega) only[bu,if_pos,s,aG,zk];by_cases o:a[b]<0
    ·rw[if_pos o];exact ae.af.2 ⟨rfl,λc=>by have:=c.2.1 _ v;omega⟩
    rw[if_neg o];by_cases p:a[b]>=(d:Int)
    ·rw[if_pos p];exact ae.af.2 ⟨rfl,λc=>by have:=c.2.1 _ v;omega⟩
    rw[if_neg p];obtain⟨f,i⟩:∃f:Nat,a[b]=(f:Int):=⟨a[b].toNat,U⟩;have L:f<d:=U;rw[i];simp(disch:=omega) only[bi,dy,aG,dw,bu];by_cases g:(f:Int)∈a.take b
    ·rw[if_pos g];refine ae.af.2 ⟨rfl,λc=>?_⟩;obtain⟨x,C,u⟩:=fH.1 g;simp only[eC] at C;simp only[vY] at u;have:=(List.getElem_inj c.2.2).1 (u.trans i.symm);omega
    rw[if_neg g];simp(disch:=omega) only[aG,s,i,bi,dy,dw,fA,kb];have w:a.take (b+1)=a.take b++[(f:Int)]:=(by rw[<-mW j,i]);refine ae.af.2 ⟨rfl,?_,λe A K=>?_,?_⟩
    ·show((_,()):_×Unit)=_;refine congrArg (·,()) (bR λn _=>?_);simp only[bZ];rw[w];by_cases c:n=f
     ·subst c;rw[if_pos rfl,az (k4 _ (List.mem_singleton_self _))]
     ·rw[if_neg c,decide_eq_decide,eH,eS];exact⟨.inl,λz=>z.resolve_right U⟩
    ·by_cases c:e=b
     ·subst c;omega
     ·exact l e A U
    ·rw[w,iJ];refine⟨h,ac,λH q I r y=>?_⟩;rw[eS] at r;rw[y,r] at q;exact g q
   ·rintro _ ⟨rfl,l,h⟩;simp(disch:=omega) only[bu,if_neg];refine ae.af.2 ⟨t,λM E=>?_,?_⟩
    ·obtain⟨x,B,rfl⟩:=fH.1 E;exact l x B U
    ·rw[dK U] at h;exact h
  ·rintro(m|m) k
   ·exact ae.af.2 (by rw[az (show eZ a d from k)])
   ·exact ae.af.2 (by rw[k.1,ay k.2])
 ·rw[ay (U:¬(((a.length:Nat):Int)=(d:Int)))];simp only[hR,cond_true];rw[ay (λc=>t c.1)]
def kR (a:c7) (b:ab1):Int:=open Classical in if gO a≠0 then gO a else if b.length≠a.length then 2 else if eZ b a.length then 0 else 90
theorem FU (d:∀i∈g,i.length<4611686018427387904) (a:ab1):qJ ((g,()),a,())=some (if kR g a=0 then((hf (hN g a),()),0,()) else(([],()),kR g a,())):=by
 classical
 unfold qJ kR;simp only[FT g d,aG,dr];by_cases c:gO g=0
 ·obtain⟨h,f⟩:=qy.1 c;rw[az c];simp only[gG,cond_false,c,ne_eq,not_true_eq_false,if_false];by_cases e:a.length=g.length
  ·rw[az (U:(((a.length:Nat):Int)=((g.length:Nat):Int)))];simp only[gG,cond_false,e,not_true_eq_false,if_false];rw[RB a g.length U];simp only[aG];by_cases b:eZ a g.length
   ·rw[az b];simp only[gG,cond_false,if_pos b,if_true];rw[Ru f d h b.2.1 b.2.2 U];rfl
   ·rw[ay b];simp only[hR,cond_true,if_neg b];rw[if_neg U]
  ·rw[ay (U:¬(((a.length:Nat):Int)=((g.length:Nat):Int)))];simp only[hR,cond_true,e,not_false_eq_true,if_true];rw[if_neg U]
 ·rw[ay c];simp only[hR,cond_true,c,ne_eq,not_false_eq_true,if_true,if_false]
theorem abr (d:c7) (c:Int):zQ ((d,()),c,())=some (decide (0<=c/\c<(d.length:Int)),()):=by
 unfold zQ;simp only[Dr];by_cases b:c>=0
 ·rw[if_pos b];congr 2;exact decide_eq_decide.2 ⟨λa=>⟨b,a⟩,λa=>a.2⟩
 ·rw[if_neg b,ay (λa=>b a.1)]
theorem YY (e:c7) (a:ab1) (n:a.length<4611686018427387904):Af (a,(some (e,()),()),())=some (decide (¬∀d∈a,0<=d/\d<(e.length:Int)),()):=by
 classical
 unfold Af DD;simp only[];rw[<-ae.eq_iff];have h:(∀d∈a,0<=d/\d<(e.length:Int))↔∀c,c<a.length->∀b:c<a.length,0<=a[c]/\a[c]<(e.length:Int):=
  ⟨λb c _ f=>b _ (bI f),λb d m=>by obtain⟨c,f,rfl⟩:=fH.1 m;exact b c f f⟩
 refine ae.aW (P:=λj=>decide (j.1>=0)=decide (¬∀d∈a,0<=d/\d<(e.length:Int))) ?_ (λj l=>ae.af.2 (by rw[l]));refine ae.aW (EO a.length (λc=>∀b:c<a.length,0<=a[c]/\a[c]<(e.length:Int)) ?_ ?_) ?_
 ·intro c f;simp(disch:=omega) only[bu,if_pos,fS (be f),aG,kb];unfold Du;simp only[aG,abr];by_cases b:0<=a[c]/\a[c]<(e.length:Int)
  ·rw[az b,if_pos (λ_=>b)];rfl
  ·rw[ay b,if_neg (λk=>b (k f))];rfl
 ·simp(disch:=omega) only[bu,if_neg]
 ·rintro(i|i) g
  ·refine ae.af.2 ?_;rw[ay aa,ay (λb=>b (h.2 g))]
  ·refine ae.af.2 ?_;rw[az (show i.1>=0 from g.1),az (show¬∀d∈a,0<=d/\d<(e.length:Int) fromλb=>g.2 (h.1 b))]
theorem RC (j:∀n∈g,n.length<4611686018427387904) (a:ab1) (l:g.length<=200->b2 g->g.length<=12) (m:a.length<4611686018427387904):zL ((g,()),a,())=some (kR g a,()):=by
 classical
 unfold zL kR;simp only[yE g j,aG,dr];by_cases b:gO g=0
 ·obtain⟨k,i⟩:=qy.1 b;have o:=l k i;rw[az b];simp only[gG,cond_false,b,ne_eq,not_true_eq_false,if_false];by_cases f:a.length=g.length
  ·rw[az (U:(((a.length:Nat):Int)=((g.length:Nat):Int)))];simp only[gG,cond_false,f,not_true_eq_false,if_false];rw[YY g a m];simp only[aG];by_cases c:∀h∈a,0<=h/\h<(g.length:Int)
   ·rw[ay (not_not_intro c)];simp only[beq_self_eq_true,cond_true];rw[aa1 a U];simp only[aG,bu];by_cases d:a.Nodup
    ·rw[if_neg (not_not_intro d),if_pos ⟨f,c,d⟩]
    ·rw[if_pos d,if_neg (λe=>d e.2.2)]
   ·rw[az c,if_neg (λe=>c e.2.1)];rfl
  ·rw[ay (U:¬(((a.length:Nat):Int)=((g.length:Nat):Int)))];simp only[hR,cond_true,f,not_false_eq_true,if_true]
 ·rw[ay b];simp only[hR,cond_true,b,ne_eq,not_false_eq_true,if_true]
end
section
open Go
def oe (c:c7) (a:ab1) (b d:Nat):Bool:=decide (a.getD d 0∈c.getD (a.getD b 0).toNat [])
theorem Jz (r:b2 g) (n:∀d∈c,0<=d/\d<(g.length:Int)) (l:a<c.length) (m:b<c.length):oe g c a b=oe g c b a:=by have j:=n _ (bI l);have k:=n _ (bI m);have p:∀d e:Int,0<=d/\d<(g.length:Int)->0<=e/\e<(g.length:Int)->e∈g.getD d.toNat []->d∈g.getD e.toNat []:=λd e t u i=>(by obtain⟨f,rfl⟩:∃f:Nat,d=(f:Int):=⟨d.toNat,U⟩;obtain⟨h,rfl⟩:∃h:Nat,e=(h:Int):=⟨e.toNat,U⟩;simp only[dc] at i|-;have o:f<g.length:=U;have s:h<g.length:=U;rw[lW o] at i;obtain⟨_,q⟩:=b1.symm r f h ⟨o,i⟩;rw[lW s];exact q);unfold oe;rw[lW l,lW m];exact decide_eq_decide.2 ⟨p _ _ j k,p _ _ k j⟩
theorem UH (i:b2 g) (j:∀f∈c,0<=f/\f<(g.length:Int)):g4 c.length (λd e=>decide (d≠e)&&oe g c d e)=hf (hN g c):=by unfold g4 hf;rw[og];refine hU λk a=>?_;have a:=fd.1 a;unfold gB kP;refine congrArg _ (rT λl b=>?_);have b:=fd.1 b;rw[sb a b,sb b a];have:=Jz i j a b;unfold oe at this|-;rw[<-this,Bool.or_self];by_cases h:k=l<;>simp[h]
theorem U2 (u:b2 g) (F:∀c∈g,c.length<4611686018427387904) (w:∀C∈c,0<=C/\C<(g.length:Int)) (K:c.length<=400):zO ((g,()),c,())=some ((hf (hN g c),()),()):=by
 generalize o:c.length=j at*
 let i:Nat->Nat->Nat->Nat->Bool:=λa b d e=>decide (d≠e)&&(oe g c d e&&((decide (d<a)&&decide (e<a))||((decide (d=a)&&decide (e<b))||(decide (e=a)&&decide (d<b)))))
 unfold zO;simp only[o];rw[GX j U];simp only[aG];refine au (y:=(([],()),gM j (i j 0),())) (xN j (λa=>(([],()),gM j (i a 0),())) 0 rfl ?_ (bN _) ?_ ?_) ?_
 ·refine congrArg (λl=>(([],()),l,())) (u9 λd e _ _=>?_);simp[i]
 ·intro a _ I;have r:a<c.length:=U;have G:aA c (a:Int)=some c[a]:=fS (be r);have h:=w _ (bI r);obtain⟨k,s⟩:∃k:Nat,c[a]=(k:Int):=⟨c[a].toNat,U⟩;have t:k<g.length:=U;simp(disch:=omega) only[bu,if_pos,G,aG,s8,o,u1,fe,s,ml];have B:(c.take a).length=a:=(by rw[eC];omega);refine au (y:=(([],()),gM j (i a a),())) (xN a (λb=>(([],()),gM j (i a b),())) 0 rfl rfl (bN _) ?_ ?_) ?_
  ·intro b _ J;have v:b<c.length:=U;have H:aA (c.take a) (b:Int)=some c[b]:=fS (by rw[k3 J];exact be v);simp(disch:=omega) only[B,bu,if_pos,H,aG,kb];rw[Ew g k c[b] t (F _ (bI t)) ((CV g).1 u k t).1];simp only[aG,bu];have n:oe g c a b=decide (c[b]∈g[k]):=by
    unfold oe;rw[lW r,lW v,s,dc,lW t]
   have q:oe g c b a=decide (c[b]∈g[k]):=(by rw[<-n];exact Jz u (by simpa[o] using w) v r);by_cases p:c[b]∈g[k]
   ·rw[if_pos p,GR I U];simp only[aG];refine congrArg (λl=>some (Sum.inl (((b+1:Nat):Int),([],()),l,()))) (u9 λd e _ _=>?_);rw[az p] at n q;simp only[i];rw[me];simp only[fy,bg,decide_eq_true_eq];constructor
    ·rintro(⟨h,f,m⟩|⟨h,⟨rfl,rfl⟩|⟨rfl,rfl⟩⟩)
     ·exact⟨h,f,U⟩
     ·exact⟨U,n,U⟩
     ·exact⟨U,q,U⟩
    ·rintro⟨h,f,m⟩;by_cases D:(d=a/\e=b)\/(d=b/\e=a)
     ·exact .inr ⟨U,D⟩
     ·exact .inl ⟨h,f,U⟩
   ·rw[if_neg p];simp only[aG];refine congrArg (λl=>some (Sum.inl (((b+1:Nat):Int),([],()),l,()))) (u9 λd e _ _=>?_);rw[ay p] at n q;simp only[i];rw[me];simp only[fy,bg,decide_eq_true_eq];constructor
    ·rintro⟨h,f,m⟩;exact⟨h,f,U⟩
    ·rintro⟨h,f,m⟩;refine⟨h,f,?_⟩;by_cases z:d=a/\e=b
     ·rw[z.1,z.2,n] at f;cases f
     ·by_cases A:d=b/\e=a
      ·rw[A.1,A.2,q] at f;cases f
      ·omega
  ·simp(disch:=omega) only[B,bu,if_neg]
  ·simp(disch:=omega) only[kb];refine congrArg (λl=>some (Sum.inl (((a+1:Nat):Int),([],()),l,()))) (u9 λd e _ _=>?_);simp only[i];rw[me];simp only[fy,bg,decide_eq_true_eq];constructor
   ·rintro⟨h,f,m⟩;exact⟨h,f,U⟩
   ·rintro⟨h,f,m⟩;exact⟨h,f,U⟩
 ·simp(disch:=omega) only[bu,if_neg]
 ·rw[GO U];simp only[aG];have E:g4 j (i j 0)=g4 j (λd e=>decide (d≠e)&&oe g c d e):=by
   refine bR λk s=>congrArg gB (rT λL x=>?_);have x:=fd.1 x;simp[i,s,x]
  rw[E,<-o,UH u (by simpa[o] using w)]
theorem RE (f:∀l∈g,l.length<4611686018427387904) (b:ab1) (j:g.length<=200->b2 g->g.length<=12) (k:b.length<4611686018427387904):wO ((g,()),b,())=some (if kR g b=0 then((hf (hN g b),()),0,()) else(([],()),kR g b,())):=by
 classical
 unfold wO;simp only[RC f b j k,aG,dr];by_cases a:kR g b=0
 ·rw[az a,if_pos a];simp only[gG,cond_false];have e:gO g=0:=by
   by_cases d:gO g=0
   ·exact d
   ·unfold kR at a;rw[if_pos d] at a;exact absurd a d
  obtain⟨m,i⟩:=qy.1 e;have c:eZ b g.length:=by
   unfold kR at a;rw[if_neg (not_not_intro e)] at a;by_cases h:b.length=g.length
   ·rw[if_neg (not_not_intro h)] at a;by_cases c:eZ b g.length
    ·exact c
    ·rw[if_neg c] at a;omega
   ·rw[if_pos h] at a;omega
  rw[U2 i f c.2.1 (by have:=c.1;omega)];rfl
 ·rw[ay a,if_neg a];rfl
end
def g5 (E:List bF) (b c:Nat):Bool:=E.any λa=>decide (a.1≠a.2.1)&&((decide ((b:Int)=a.1)&&decide ((c:Int)=a.2.1))||(decide ((b:Int)=a.2.1)&&decide ((c:Int)=a.1)))
def j9 (E:List bF) (b c:Nat):Bool:=E.any λa=>decide ((b:Int)=a.1)&&decide ((c:Int)=a.2.1)
theorem C5 {b:p->Bool} {E:List p} (c:a<E.length):(E.take (a+1)).any b=((E.take a).any b||b E[a]):=by rw[jo,be c,List.any_append];simp
theorem VP (a:Nat) (d:Nat->Nat->Bool) (e:∀b c,d b c=false):(List.replicate a (List.replicate a false))=gM a d:=by unfold gM;rw[he];refine bR λb _=>?_;rw[he];exact bR λc _=>(e b c).symm
theorem HT (c:b<a) (d:h<a):fw (gM a l) b h=l b h:=by unfold fw gM;rw[iF,iF,qT c];show(aq a (l b))[h]?.getD false=_;rw[qT d];rfl
theorem Jb (f:Nat) (d:Nat->Nat->Bool):hf (gM f d)=g4 f λb c=>b !=c&&(d b c||d c b):=by unfold hf;rw[xQ];refine bR λb e=>?_;unfold kP gB;congr 1;refine rT λc a=>?_;have a:=fd.1 a;rw[HT e a,HT a e]
theorem JD {E:List bF} (e f:Nat):(e !=f&&(j9 E e f||j9 E f e))=g5 E e f:=by
 induction E with
 |nil=>simp[j9,g5]
 |cons h E g=>
  unfold j9 g5 at*;simp only[List.any_cons];rw[<-g,me];simp only[bg,fy,bne_iff_ne,decide_eq_true_eq];constructor
  ·rintro⟨d,(⟨b,c⟩|a)|(⟨b,c⟩|a)⟩
   ·exact .inl ⟨U,.inl ⟨b,c⟩⟩
   ·exact .inr ⟨d,.inl a⟩
   ·exact .inl ⟨U,.inr ⟨c,b⟩⟩
   ·exact .inr ⟨d,.inr a⟩
  ·rintro(⟨d,⟨b,c⟩|⟨b,c⟩⟩|⟨d,a|a⟩)
   ·exact⟨U,.inl (.inl ⟨b,c⟩)⟩
   ·exact⟨U,.inr (.inl ⟨c,b⟩)⟩
   ·exact⟨d,.inl (.inr a)⟩
   ·exact⟨d,.inr (.inr a)⟩
theorem Rr (f:hq a a m c u) (o:gq a a m c u=0):wM (((a:Int),(a:Int),m,c,u,()),())=some ((g4 a (g5 (bQ m c u a)),()),0,()):=by
 have k:=(jU.1 o).1;have t:=qP k;have y:(bQ m c u a).length<=10000:=(by rw[xo k a (Nat.le_refl _)];have:=k.om a (Nat.le_refl _);have:=f.hi;omega);unfold wM;refine au f.check ?_;dsimp only;rw[o,dr,az rfl,dr,az rfl];have x:=f.hc;refine au (GX a U) (au (NL f o) ?_);dsimp only;generalize bQ m c u a=E at*;refine ae.eq_iff.1 ?_;refine ae.aW (P:=λv=>v=(([],()),gM a (g5 E),())) ?_ ?_
 ·refine ae.steps E.length (λb w=>w=((b:Int),([],()),gM a (g5 (E.take b)),E,())) rfl ?_ ?_
  ·rintro b _ l rfl;dsimp only;rw[bn (az (show(b:Int)<ax E by simp only[a7];omega)),lr l,bA U];have s:=t E[b] (List.getElem_mem l);obtain⟨d,p⟩:=Int.eq_ofNat_of_zero_le s.1;obtain⟨e,q⟩:=Int.eq_ofNat_of_zero_le s.2.2.1;have r:=GR (n:=a) (B:=g5 (E.take b)) (i:=d) (j:=e) U U;rw[<-p,<-q] at r;refine ae.bs r (ae.af.2 ?_);dsimp only;have:gM a (λg h=>g5 (E.take b) g h||(decide (d≠e)&&((decide (g=d)&&decide (h=e))||(decide (g=e)&&decide (h=d)))))=gM a (g5 (E.take (b+1))):=by
    refine u9 λz A _ _=>?_;unfold g5;rw[C5 l,p,q];congr 1;rw[me];simp only[bg,fy,decide_eq_true_eq];omega
   rw[this]
  ·rintro _ rfl;dsimp only;rw[bm (ay (show¬((E.length:Int)<ax E) by simp only[a7];omega)),List.take_of_length_le (Nat.le_refl _)];exact ae.af.2 rfl
 ·rintro _ rfl;dsimp only;exact ae.bs (GO U) (ae.af.2 rfl)
theorem Zv (i:hq a a m c n) (o:gq a a m c n=0):sB (((a:Int),(a:Int),m,c,n,()),())=some ((g4 a (g5 (bQ m c n a)),()),0,()):=by
 have j:=(jU.1 o).1;have u:=qP j;have A:(bQ m c n a).length<=10000:=(by rw[xo j a (Nat.le_refl _)];have:=j.om a (Nat.le_refl _);have:=i.hi;omega);unfold sB;refine au i.vt ?_;dsimp only;rw[o,dr,az rfl,dr,az rfl];have z:=i.hc;refine au (IE a U) (au (LR i o) ?_);dsimp only;generalize bQ m c n a=E at*;refine ae.eq_iff.1 ?_;refine ae.aW (P:=λx=>x=(([],()),gM a (j9 E),())) ?_ ?_
 ·refine ae.steps E.length (λe y=>y=((e:Int),([],()),gM a (j9 (E.take e)),())) ?_ ?_ ?_
  ·rw[VP a (j9 (E.take 0)) λb d=>rfl];rfl
  ·rintro e _ g rfl;dsimp only;rw[bn (az (show(e:Int)<ax E by simp only[a7];omega)),bA U];have t:=u E[e] (List.getElem_mem g);obtain⟨f,k⟩:=Int.eq_ofNat_of_zero_le t.1;obtain⟨h,l⟩:=Int.eq_ofNat_of_zero_le t.2.2.1;have r:f<a:=U;have v:h<a:=U;refine ae.bs (bX g) ?_;rw[k];refine ae.bs (dy (by rw[xQ];omega)) (ae.bs (bX g) ?_);rw[l];unfold gM;rw[dw r,Option.bind_some];refine ae.bs (dy (by rw[bi];omega)) ?_;rw[dw r,dw v,fA,Option.map_some,Option.bind_some,fA];refine ae.af.2 ?_;have:aq a (bZ (λb=>aq a (j9 (E.take e) b)) f (aq a (bZ (j9 (E.take e) f) h true)))=aq a λb=>aq a (j9 (E.take (e+1)) b):=by
    refine bR λb B=>?_;by_cases p:b=f
    ·subst p;rw[ew];refine bR λd w=>?_;unfold j9;rw[C5 g,k,l];by_cases q:d=h
     ·subst q;rw[ew];simp
     ·rw[eG _ _ q,ay (U:¬((d:Int)=(h:Int)))];simp
    ·rw[eG _ _ p];refine bR λd w=>?_;unfold j9;rw[C5 g,k,l,ay (U:¬((b:Int)=(f:Int)))];simp
   rw[this]
  ·rintro _ rfl;dsimp only;rw[bm (ay (show¬((E.length:Int)<ax E) by simp only[a7];omega)),List.take_of_length_le (Nat.le_refl _)];exact ae.af.2 rfl
 ·rintro _ rfl;dsimp only;refine ae.bs (GM _ (λC s=>?_) (by rw[xQ];omega)) (ae.af.2 ?_)
  ·rw[xQ];unfold gM aq at s;obtain⟨b,_,rfl⟩:=bT.1 s;simp
  ·dsimp only;rw[Jb];have:(λb d=>b !=d&&(j9 E b d||j9 E d b))=g5 E:=(by funext b d;exact JD b d);rw[this]
section
open Go
def hl (b:ab1) (a:Nat):Nat:=(b.getD a 0).toNat
theorem eZ.get {n:Nat} (d:eZ c n) (f:a<n):aA c (a:Int)=some ((hl c a:Nat):Int)/\hl c a<n:=by have b:a<c.length:=(by rw[d.1];exact f);have g:=d.2.1 _ (bI b);have e:hl c a=c[a].toNat:=(by unfold hl;rw[lW b]);exact⟨by rw[fS (be b),e];congr 1;omega,U⟩
theorem eZ.inj (d:eZ c h) (i:a<h) (j:b<h) (e:hl c a=hl c b):a=b:=by have f:a<c.length:=(by rw[d.1];exact i);have g:b<c.length:=(by rw[d.1];exact j);have k:=d.2.1 _ (bI f);have l:=d.2.1 _ (bI g);unfold hl at e;rw[lW f,lW g] at e;exact(List.getElem_inj d.2.2).1 U
end
section
open Go
section
variable {aI:c7} (B:b2 aI) {o:ab1} (A:eZ o aI.length)
include B A
theorem Wl (f:a<aI.length) (g:b<aI.length):b1 (hf (hN aI o)) a b↔b1 aI (hl o a) (hl o b):=by have d:a<o.length:=(by rw[A.1];exact f);have e:b<o.length:=(by rw[A.1];exact g);rw[RA B A.2.1 A.2.2];unfold hl;rw[lW d,lW e];exact⟨λ⟨_,_,c⟩=>c,λc=>⟨d,e,c⟩⟩
end
end
section
open Go
theorem Wz:∀{n:Nat} {a:ab0},a.Nodup->(∀b∈a,b<n)->a.length<=n:=by
 intro n
 induction n with
 |zero=>intro a _ c;cases a with
  |nil=>exact aY _
  |cons h a=>exact absurd (c h (iH ..)) U
 |succ n l=>
  intro a e c;have j:(a.erase n).Nodup:=e.erase n;have k:∀b∈a.erase n,b<n:=λb g=>(by have d:=c b (List.mem_of_mem_erase g);have m:b≠n:=λi=>(by subst i;exact(e.mem_erase_iff.1 g).1 rfl);omega);have d:=l j k;by_cases f:n∈a
  ·rw[List.length_erase_of_mem f] at d;omega
  ·rw[List.erase_of_not_mem f] at d;omega
theorem VZ {b:ab0}:(a:Int)∈gB b↔a∈b:=by
 unfold gB;rw[bT];constructor
 ·rintro⟨e,d,f⟩;obtain rfl:e=a:=U;exact d
 ·exactλc=>⟨a,c,rfl⟩
section
variable {aI:c7} (A:b2 aI)
include A
end
end
section
open Go
def AS (aI:c7) (a:Int):Nat:=(aI.getD a.toNat []).length
section
variable {aI:c7} (A:b2 aI) (B:aI.length<=200)
include A B
end
end
section
open Go
def J0 (a:c7) (b c:Int):Prop:=AS a b<AS a c\/(AS a b=AS a c/\b<c)
instance(a:c7) (b c:Int):Decidable (J0 a b c):=by unfold J0;exact inferInstance
end
section
open Go
def fD (o:ab1) (a:Nat):Nat:=o.idxOf (a:Int)
section
variable {o:ab1} {n:Nat} (A:eZ o n)
include A
theorem eZ.mem (p:a<n):(a:Int)∈o:=by
 apply CL;intro m;obtain⟨w,b,i⟩:=A;have h:o=gB (o.map Int.toNat):=by
  unfold gB;rw[qg]
  conv=>lhs;rw[<-List.map_id o]
  refine hU λg c=>?_;have:=b g c;simp only[id,Function.comp];omega
 have j:(o.map Int.toNat).Nodup:=(by rw[List.nodup_iff_pairwise_ne,qh];refine(gx.2 λr s e f k=>?_);have u:=b _ (bI e);have v:=b _ (bI f);have:=gx.1 (List.nodup_iff_pairwise_ne.1 i) r s e f k;omega);have l:a∉o.map Int.toNat:=λc=>m (by rw[h];exact VZ.2 c);have:=Wz (n:=n) (jn.2 ⟨l,j⟩) (λg d=>by
  rcases dh.1 d with rfl|d
  ·exact p
  ·obtain⟨t,q,rfl⟩:=bT.1 d;have:=b t q;omega)
 rw[h5,gw] at this;omega
theorem eZ.pos (d:a<n):fD o a<n/\hl o (fD o a)=a:=by have c:=A.mem d;have b:fD o a<o.length:=List.idxOf_lt_length_iff.2 c;refine⟨by rw[<-A.1];exact b,?_⟩;unfold hl;rw[lW b,show o[fD o a]=(a:Int) from List.getElem_idxOf b];simp
theorem eZ.B6 (b:a<n):fD o (hl o a)=a:=by have c:=(A.get b).2;obtain⟨d,e⟩:=A.pos c;exact A.inj d b e
end
section
variable {aI:c7} (B:b2 aI) {o:ab1} (A:eZ o aI.length)
include B A
end
end
def lx (E:List bF) (b c:Int):Int:=match E.find? λa=>decide (a.1=b)&&decide (a.2.1=c) with
 |some a=>a.2.2.1
 |none=>0
theorem TN {E:List bF} (e:E.Pairwise fF) {b:bF} (h:r∈E) (i:b∈E) (j:r.1=b.1) (k:r.2.1=b.2.1):r=b:=by
 obtain⟨c,f,rfl⟩:=fH.1 h;obtain⟨d,g,rfl⟩:=fH.1 i;rcases k5 c d with a|a|a
 ·have:=gx.1 e c d f g a;unfold fF at this;omega
 ·subst a;rfl
 ·have:=gx.1 e d c g f a;unfold fF at this;omega
theorem Nj {E:List bF} (f:E.Pairwise fF) (d:r∈E):lx E r.1 r.2.1=r.2.2.1:=by
 unfold lx;cases a:E.find? λc=>decide (c.1=r.1)&&decide (c.2.1=r.2.1) with
 |none=>
  have:=List.find?_eq_none.1 a r d;simp at this
 |some c=>
  have b:=List.find?_some a;have e:=List.mem_of_find?_eq_some a;simp only[Bool.and_eq_true,decide_eq_true_eq] at b;dsimp only;rw[TN f e d b.1 b.2]
theorem Nk {E:List bF} (b:∀a∈E,¬(a.1=e/\a.2.1=q)):lx E e q=0:=by unfold lx;rw[List.find?_eq_none.2];intro a c;have:=b a c;simpa using this
theorem Nl {E:List bF} (f:(E++[r]).Pairwise fF) (b c:Int):lx (E++[r]) b c=if r.1=b/\r.2.1=c then r.2.2.1 else lx E b c:=by
 by_cases a:r.1=b/\r.2.1=c
 ·rw[if_pos a,<-a.1,<-a.2,Nj f ac]
 ·rw[if_neg a];unfold lx;have e:List.find? (λd:bF=>decide (d.1=b)&&decide (d.2.1=c)) [r]=none:=by
   refine List.find?_eq_none.2 λd g=>?_;obtain rfl:=eS.1 g;simpa using a
  rw[List.find?_append,e,Option.or_none]
theorem abl {E:List bF} (e:∀f∈E,dX f.2.2.1) (b c:Int):dX (lx E b c):=by
 unfold lx;cases d:E.find? λa=>decide (a.1=b)&&decide (a.2.1=c) with
 |none=>exact⟨aa,aa⟩
 |some a=>exact e a (CO d)
theorem abm {E:List bF} (e:∀f∈E,bK f.2.2.1≠2047) (b c:Int):bK (lx E b c)≠2047:=by
 unfold lx;cases d:E.find? λa=>decide (a.1=b)&&decide (a.2.1=c) with
 |none=>show bK 0≠2047;decide
 |some a=>exact e a (CO d)
theorem Kb (g:et h b c m n) (k:a<b):r∈bQ c m n b/\r.2.1=(a:Int)↔∃d:Nat,c.getD a 0<=(d:Int)/\(d:Int)<c.getD (a+1) 0/\r=(m.getD d 0,(a:Int),n.getD d 0,()):=by
 have t:=g.pos a U;have u:=g.pos (a+1) U;constructor
 ·rintro⟨e,i⟩;obtain⟨f,q,e⟩:=xT.1 e;obtain⟨l,s,rfl⟩:=s6.1 e;have j:f=a:=(by dsimp only at i;omega);subst j;exact⟨(c.getD f 0).toNat+l,U,U,rfl⟩
 ·rintro⟨d,o,p,rfl⟩;refine⟨xT.2 ⟨a,k,s6.2 ⟨d-(c.getD a 0).toNat,U,?_⟩⟩,rfl⟩;rw[(U:(c.getD a 0).toNat+(d-(c.getD a 0).toNat)=d)]
theorem Zt (r:hq h b m c n) (v:gq h b m c n=0) (l:Int) (q:a<b):sz (((h:Int),(b:Int),m,c,n,()),l,(a:Int),())=some (lx (bQ m c n b) l (a:Int),()):=by
 have f:=(jU.1 v).1;have C:=f.pos a U;have D:=f.pos (a+1) U;have K:=f.om (a+1) U;have L:=f.val;have I:=f.mono a q;have H:=f.len;have G:=r.hi;have z:=qQ f b (aY _);have F:=r.hc;unfold sz;refine au (y:=.inl ()) ?_ ?_
 ·refine au r.vt ?_;dsimp only;rw[v,dr,az rfl,ay (U:¬((a:Int)<0)),ay (U:¬((a:Int)>=(b:Int)))];rfl
 ·dsimp only;rw[fL (U:a<m.length),Option.bind_some];refine ae.eq_iff.1 ?_;obtain⟨e,B⟩:=Int.eq_ofNat_of_zero_le C;obtain⟨i,A⟩:=Int.eq_ofNat_of_zero_le D;have x:aA m (aZ (a:Int))=some (i:Int):=(by rw[bA U,fL U,A]);rw[x,B];refine ae.aW (P:=λt=>(t=.inl ()/\∀d:Nat,e<=d->d<i->c.getD d 0≠l)\/∃d:Nat,e<=d/\d<i/\c.getD d 0=l/\t=.inr (n.getD d 0,())) ?_ ?_
  ·refine ae.steps (i-e) (λg E=>E=(((e+g:Nat):Int),())/\∀d:Nat,e<=d->d<e+g->c.getD d 0≠l) ⟨rfl,λd j o=>absurd o U⟩ ?_ ?_
   ·rintro g _ J ⟨rfl,p⟩;dsimp only;rw[Option.bind_some,bn (az (U:((e+g:Nat):Int)<(i:Int)))];refine ae.bs (fL U) ?_;by_cases k:c.getD (e+g) 0=l
    ·rw[bn (by rw[k];simp)];refine ae.bs (fL U) (ae.af.2 ?_);exact .inr ⟨e+g,U,U,k,rfl⟩
    ·rw[bm (by simpa using k),bA U];refine ae.af.2 ⟨rfl,λd j o=>?_⟩;rcases bb d (e+g) with u|u
     ·exact p d j u
     ·obtain rfl:d=e+g:=U;exact k
   ·rintro _ ⟨rfl,p⟩;dsimp only;rw[Option.bind_some,bm (ay (U:¬(((e+(i-e):Nat):Int)<(i:Int))))];exact ae.af.2 (.inl ⟨rfl,λd j o=>p d j U⟩)
  ·rintro t (⟨rfl,p⟩|⟨d,j,o,k,rfl⟩)
   ·refine ae.af.2 ?_;rw[Nk];intro M s w;obtain⟨d,j,o,rfl⟩:=(Kb f q).1 ⟨s,w.2⟩;exact p d U U w.1
   ·refine ae.af.2 ?_;have s:=((Kb f q).2 ⟨d,U,U,rfl⟩).1;have:=Nj z s;dsimp only at this;rw[k] at this;rw[this]
theorem Zk (g:a<c.length) (f:c[a]=(b:Int)) (e:(b:Int)∉c.take a):fD c b=a:=by unfold fD;have d:c=c.take a++(c[a]::c.drop (a+1)):=(by rw[List.getElem_cons_drop,lG]);rw[d,List.idxOf_append,if_neg e,f,List.idxOf_cons_self,eC];omega
theorem LI (H:a<=10000) (I:c.length<=1000000):AR (c,(a:Int),())=some (open Classical in if eZ c a then(aq a (λb=>(fD c b:Int)),true,()) else([],false,())):=by
 classical
 unfold AR;dsimp only;by_cases p:c.length=a
 ·rw[bm (by rw[dr,az (show ax c=(a:Int) by rw[a7,p])];rfl)];refine au (gT U) (au (gT U) ?_);refine ae.eq_iff.1 ?_;refine ae.aW (P:=λr=>(r=.inl (aq a (λb=>(fD c b:Int)),())/\eZ c a)\/(r=.inr ([],false,())/\¬eZ c a)) ?_ ?_
  ·refine ae.steps a (λd D=>D=((d:Int),aq a (λb=>if(b:Int)∈c.take d then(fD c b:Int) else 0),aq a (λb=>decide ((b:Int)∈c.take d)),())/\(∀g∈c.take d,0<=g/\g<(a:Int))/\(c.take d).Nodup) ?_ ?_ ?_
   ·refine⟨?_,ac,ac⟩;rw[he,he];simp
   ·rintro d _ G ⟨rfl,n,o⟩;dsimp only;rw[bn (az (show(d:Int)<ax c by rw[a7];omega)),bX (U:d<c.length)];have u:c[d]'(by omega)∈c:=List.getElem_mem _
    have q:c.take (d+1)=c.take d++[c[d]'(by omega)]:=by rw[jo,be U];rfl
    have j:∀g,g∈c.take (d+1)↔g∈c.take d\/g=c[d]'(by omega):=λg=>by rw[q,eH,eS]
    have A:(c.take (d+1)).Sublist c:=List.take_sublist _ _;have z:∀f:Nat,c[d]'(by omega)=(f:Int)->(f:Int)∉c.take d->fD c f=d:=λf=>Zk U
    generalize v:c[d]'(by omega)=b at*
    simp only[aG];by_cases s:b<0
    ·rw[bm (show(decide (b<0)==false)=false by rw[az s];rfl)];refine ae.af.2 (.inr ⟨rfl,λh=>?_⟩);have:=h.2.1 b u;omega
    ·rw[bn (show(decide (b<0)==false)=true by rw[ay s];rfl)];by_cases t:b>=(a:Int)
     ·rw[bm (show(decide (b>=(a:Int))==false)=false by rw[az t];rfl)];refine ae.af.2 (.inr ⟨rfl,λh=>?_⟩);have:=h.2.1 b u;omega
     ·rw[bn (show(decide (b>=(a:Int))==false)=true by rw[ay t];rfl)];obtain⟨f,rfl⟩:=eY (U:0<=b);rw[lr (by rw[bi];omega),gh];by_cases l:(f:Int)∈c.take d
      ·simp only[aG];rw[bn (az l)];refine ae.af.2 (.inr ⟨rfl,λh=>?_⟩);have:=List.Nodup.sublist A h.2.2;rw[q,iJ] at this;exact this.2.2 _ l _ (eS.2 rfl) rfl
      ·simp only[aG];rw[bm (ay l)];simp only[aG];rw[nK (by rw[bi];omega),fA,nK (by rw[bi];omega),fA];refine ae.af.2 ⟨?_,?_,?_⟩
       ·rw[bA U];have:aq a (bZ (λb=>decide ((b:Int)∈c.take d)) f true)=aq a (λb=>decide ((b:Int)∈c.take (d+1))):=by
         refine bR λk B=>?_;by_cases i:k=f
         ·subst i;rw[ew,az ((j _).2 (.inr rfl))]
         ·rw[eG _ _ i];refine decide_eq_decide.2 ⟨λe=>(j _).2 (.inl e),λe=>((j _).1 e).resolve_right λe=>i U⟩
        rw[this];have:aq a (bZ (λb=>if(b:Int)∈c.take d then(fD c b:Int) else 0) f (d:Int))=aq a (λb=>if(b:Int)∈c.take (d+1) then(fD c b:Int) else 0):=by
         refine bR λk B=>?_;by_cases i:k=f
         ·subst i;rw[ew,if_pos ((j _).2 (.inr rfl)),z k rfl l]
         ·rw[eG _ _ i];have:(k:Int)∈c.take (d+1)↔(k:Int)∈c.take d:=⟨λe=>((j _).1 e).resolve_right λe=>i U,λe=>(j _).2 (.inl e)⟩;by_cases m:(k:Int)∈c.take d
          ·rw[if_pos m,if_pos (this.2 m)]
          ·rw[if_neg m,if_neg λe=>m (this.1 e)]
        rw[this]
       ·intro g C;rcases(j g).1 C with e|e
        ·exact n g e
        ·subst e;omega
       ·rw[q,iJ];refine⟨o,ac,λE x F y w=>?_⟩;obtain rfl:=eS.1 y;exact l (w▸x)
   ·rintro _ ⟨rfl,n,o⟩;dsimp only;rw[bm (ay (show¬((a:Int)<ax c) by rw[a7];omega))];rw[List.take_of_length_le U] at n o|-;have h:eZ c a:=⟨p,n,o⟩;refine ae.af.2 (.inl ⟨?_,h⟩);have:aq a (λb=>if(b:Int)∈c then(fD c b:Int) else 0)=aq a (λb=>(fD c b:Int)):=bR λb v=>if_pos (h.mem v);rw[this]
  ·rintro r (⟨rfl,e⟩|⟨rfl,e⟩)
   ·refine ae.af.2 ?_;rw[if_pos e]
   ·refine ae.af.2 ?_;rw[if_neg e]
 ·rw[bn (by rw[dr,ay (show¬(ax c=(a:Int)) by rw[a7];omega)];rfl),if_neg (λe=>p e.1)]
def mU (a b:Nat) (d c e f:ab1):Int:=open Classical in if gq a b d c e≠0 then gq a b d c e else if a≠b then 5 else if eZ f a then 0 else 90
theorem Ga (d:mU a b n c u m=0):gq a b n c u=0/\a=b/\eZ m a:=by
 unfold mU at d;split at d
 ·contradiction
 ·rename_i e;split at d
  ·cases d
  ·rename_i f;split at d
   ·rename_i g;exact⟨Classical.not_not.1 e,Classical.not_not.1 f,g⟩
   ·cases d
theorem GY (h:hq a b n c u) (i:m.length<=1000000) (d:mU a b n c u m≠0):qK (((a:Int),(b:Int),n,c,u,()),m,())=some (none,mU a b n c u m,()):=by
 classical
 unfold qK;unfold mU at d|-;refine au h.check ?_;dsimp only;have j:=h.hr;by_cases e:gq a b n c u=0
 ·rw[if_neg (not_not_intro e)] at d|-;rw[bm (by rw[e];rfl)];by_cases g:a=b
  ·subst g;rw[if_neg (not_not_intro rfl)] at d|-;rw[bm (by rw[dr,az rfl];rfl)];refine au (LI U i) ?_;by_cases f:eZ m a
   ·exact absurd (if_pos f) d
   ·rw[if_neg f,if_neg f];rfl
  ·rw[if_pos g,bn (by rw[dr,ay (U:¬((a:Int)=(b:Int)))];rfl)]
 ·rw[if_pos e,bn (by rw[dr,ay e];rfl)]
def ig (a:Nat) (E:List bF) (b:ab1):c7:=hf (hN (g4 a (g5 E)) b)
theorem Eh (a:Nat) (b:Nat->Nat->Bool):∀d∈g4 a b,d.length<=a:=by intro d c;unfold g4 aq at c;obtain⟨e,_,rfl⟩:=bT.1 c;rw[vf];have:=h6 (b e) (List.range a);simpa using this
theorem sR (a:Nat) (b:Nat->Nat->Bool):(g4 a b).length=a:=bi _ _
theorem Jh (c:Nat) (E:List bF):g4 c (g5 E)=hf (gM c (j9 E)):=by rw[Jb];have:(λa b=>a !=b&&(j9 E a b||j9 E b a))=g5 E:=(by funext a b;exact JD a b);rw[this]
theorem LG (e:a<=5) {E:List bF} (b:eZ c a):kR (g4 a (g5 E)) c=0:=by unfold kR;have d:gO (g4 a (g5 E))=0:=qy.2 ⟨by rw[sR];omega,by rw[Jh];exact Bc _⟩;rw[if_neg (not_not_intro d),if_neg (not_not_intro (by rw[sR];exact b.1)),sR,if_pos b]
theorem RF (e:a<=5) {E:List bF} (b:eZ c a):wO ((g4 a (g5 E),()),c,())=some ((ig a E c,()),0,()):=by rw[RE (λf d=>by have:=Eh a _ f d;omega) c (λ_ _=>by rw[sR];omega) (by rw[b.1];omega),if_pos (LG e b)];rfl
theorem Zx (d:a<=5) {E:List bF} (e:eZ c a):qJ ((g4 a (g5 E),()),c,())=some ((ig a E c,()),0,()):=by rw[FU (λf b=>by have:=Eh a _ f b;omega) c,if_pos (LG d e)];rfl
theorem uU {E:List bF} (b:eZ c a):(ig a E c).length=a:=by unfold ig;rw[Ed,og,b.1]
theorem xC (a:Nat) (E:List bF) (b:ab1):b2 (ig a E b):=Bc _
theorem Jo (f:a<=5) {E:List bF} (e:eZ c a):∀b∈ig a E c,b.length<4611686018427387904:=λb d=>by have:=UA _ b d;rw[og,e.1] at this;omega
theorem Rt (s:a<=5) (q:hq a a m c n) (i:gq a a m c n=0):wM (pI a a (eg (bQ m c n a)),())=some ((g4 a (g5 (eg (bQ m c n a))),()),0,()):=by have b:=(jU.1 i).1;have k:=(jU.1 i).2;have f:=qQ b a (aY _);have g:=qP b;have t:=By s (q8 f) (q7 g) Bx;have l:=sJ b q.hw;have o:=sJ b (D4 k);have j:=q8 f;have h:=q7 g;have r:=MG (rows:=a) (fR:=a) (E:=eg (bQ m c n a)) U U U (λe d=>l e (fc.1 d).1);have p:=H5 j h (λe d=>o e (fc.1 d).1);have:=Rr r p;rw[IL j h] at this;exact this
def lg:di:=(false,((false,([],())),((0:Int),())))
theorem Iw:lg=bf (some 0):=by rw[iv];rfl
theorem rp:ea 0=some 0:=by decide
theorem xP {k:Type}:∀(j:List (Int×k)) (c:Int) (e:k) (b:Int),en (hk j c e) b=if b=c then some e else en j b
 |[],c,e,b=>by
  show(if c=b then some e else none)=_;by_cases d:b=c
  ·rw[if_pos d,if_pos d.symm]
  ·rw[if_neg d,if_neg (λf=>d f.symm)];rfl
 |(a,u)::r,c,e,b=>by
  unfold hk;by_cases h:c<a
  ·rw[if_pos h];show(if c=b then some e else en ((a,u)::r) b)=_;by_cases d:b=c
   ·rw[if_pos d,if_pos d.symm]
   ·rw[if_neg d,if_neg (λf=>d f.symm)]
  ·rw[if_neg h];by_cases i:c=a
   ·rw[if_pos i];show(if c=b then some e else en r b)=_;by_cases d:b=c
    ·rw[if_pos d,if_pos d.symm]
    ·rw[if_neg d,if_neg (λf=>d f.symm)];show _=(if a=b then some u else en r b);rw[if_neg U]
   ·rw[if_neg i];show(if a=b then some u else en (hk r c e) b)=_;rw[xP r c e b];show _=if b=c then some e else(if a=b then some u else en r b)
    by_cases g:a=b
    ·rw[if_pos g,if_neg U,if_pos g]
    ·rw[if_neg g,if_neg g]
abbrev gZ:=Option (List (Int×di)×Nat)
variable{o:List gZ}
def hL (a b:Int):Int:=if b>a then b else a
def hM (a b:Int):Int:=if b<a then b else a
def ba (E:List bF) (a:ab1) (b c:Nat):abV:=ea (lx E (hL (a.getD b 0) (a.getD c 0)) (hM (a.getD b 0) (a.getD c 0)))
theorem IM (E:List bF) (a:ab1) (b c:Nat):ba E a b c=ba E a c b:=by unfold ba;rw[show hL (a.getD b 0) (a.getD c 0)=hL (a.getD c 0) (a.getD b 0) by unfold hL;split<;>split<;>omega,show hM (a.getD b 0) (a.getD c 0)=hM (a.getD c 0) (a.getD b 0) by unfold hM;split<;>split<;>omega]
structure iK (n:Nat) (o:ab1) (D:List bF) (M:List gZ):Prop where
 len:M.length=n
 get:∀p,p<n->∃l c,M[p]?=some (some (l,c))/\∀q,q<n->p<=q->(en l (q:Int)).getD lg=bf (ba D o p q)
theorem iK.nil:iK a c [] (aq a λ_=>some ([],0)) where
 len:=bi _ _
 get:=λd b=>⟨[],0,qT b,λe _ _=>by
  show lg=bf (ea 0);rw[rp,Iw]⟩
theorem vp (e:eZ c b) (f:a<b):c.getD a 0=(hl c a:Int)/\hl c a<b:=by have d:a<c.length:=(by rw[e.1];exact f);have:=e.2.1 c[a] (bI d);unfold hl;rw[jY d];omega
theorem Zl {i:Nat} (e:eZ c i) (q:v<i) (p:a<i) (t:a<=v) (k:b<i) (l:h<i) (u:b<=h):(hM (fD c v:Int) (fD c a:Int)=(b:Int)/\hL (fD c v:Int) (fD c a:Int)=(h:Int))↔(v:Int)=hL (c.getD b 0) (c.getD h 0)/\(a:Int)=hM (c.getD b 0) (c.getD h 0):=by
 obtain⟨r,w⟩:=vp e k;obtain⟨ar,x⟩:=vp e l;obtain⟨y,o⟩:=e.pos q;obtain⟨s,j⟩:=e.pos p;have m:=e.B6 k;have n:=e.B6 l;rw[r,ar];constructor
 ·rintro⟨f,g⟩;have:(fD c v=b/\fD c a=h)\/(fD c v=h/\fD c a=b):=by
   unfold hM at f;unfold hL at g;split at f<;>split at g<;>omega
  rcases this with⟨aj,d⟩|⟨aj,d⟩
  ·rw[aj] at o;rw[d] at j;unfold hL hM;split<;>split<;>omega
  ·rw[aj] at o;rw[d] at j;unfold hL hM;split<;>split<;>omega
 ·rintro⟨f,g⟩;have:(v=hl c b/\a=hl c h)\/(v=hl c h/\a=hl c b):=by
   unfold hM at g;unfold hL at f;split at f<;>split at g<;>omega
  rcases this with⟨aj,d⟩|⟨aj,d⟩
  ·rw[aj,d,m,n];unfold hL hM;split<;>split<;>omega
  ·rw[aj,d,m,n];unfold hL hM;split<;>split<;>omega
theorem iK.skip (b:iK a c t o) (l:(t++[r]).Pairwise fF) (q:r.1<r.2.1):iK a c (t++[r]) o where
 len:=b.len
 get:=λn i=>by obtain⟨m,f,g,h⟩:=b.get n i;refine⟨m,f,g,λp k j=>?_⟩;rw[h p k j];unfold ba;rw[Nl l,if_neg];rintro⟨d,e⟩;unfold hL at d;unfold hM at e;split at d<;>split at e<;>omega
theorem iK.add (D:eZ c v) (f:iK v c t o) {l:Nat} (F:(t++[((h:Int),(a:Int),e,())]).Pairwise fF) (E:h<v) (x:a<v) (y:a<=h) (B:(b:Int)=hM (fD c h:Int) (fD c a:Int)) (A:(l:Int)=hL (fD c h:Int) (fD c a:Int)) {G H:Nat} (s:o[b]?=some (some (z,G))):iK v c (t++[((h:Int),(a:Int),e,())]) (o.set b (some (hk z (l:Int) (bf (ea e)),H))) where
 len:=by rw[o4,f.len]
 get:=λg p=>by
  have C:b<o.length:=(ey.1 s).1;have u:∀d,d<v->g<=d->bf (ba (t++[((h:Int),(a:Int),e,())]) c g d)=if b=g/\l=d then bf (ea e) else bf (ba t c g d):=by
   intro d k j;have:=Zl D E x y p k j;unfold ba;rw[Nl F];rw[<-B,<-A] at this;by_cases i:b=g/\l=d
   ·rw[if_pos i,if_pos (this.1 ⟨U,U⟩)]
   ·rw[if_neg i,if_neg (λf=>i (by have:=this.2 f;omega))]
  by_cases i:g=b
  ·subst i;refine⟨_,_,ky C,λd k j=>?_⟩;rw[xP,u d k j];by_cases r:l=d
   ·subst r;rw[if_pos rfl,if_pos ⟨rfl,rfl⟩];rfl
   ·rw[if_neg U,if_neg (λf=>r f.2)];obtain⟨w,q,m,n⟩:=f.get g p;rw[s] at m;cases m;exact n d k j
  ·obtain⟨w,q,m,n⟩:=f.get g p;refine⟨w,q,?_,λd k j=>?_⟩
   ·rw[lE (λf=>i f.symm),m]
   ·rw[u d k j,if_neg (λf=>i f.1.symm),n d k j]
theorem GZ (B:a<=5) (q:hq a a n m c) (x:gq a a n m c=0) (r:eZ u a):∃b,iK a u (bQ n m c a) b/\qK (((a:Int),(a:Int),n,m,c,()),u,())=some (some ((a:Int),(ig a (eg (bQ n m c a)) u,()),b,()),0,()):=by
 have h:=(jU.1 x).1;have ab:=qQ h a (aY _);have am:=qP h;have a3:=r.1;have an:=sJ h q.hw;suffices p:ae (qK (((a:Int),(a:Int),n,m,c,()),u,())) λf=>∃b,iK a u (bQ n m c a) b/\f=(some ((a:Int),(ig a (eg (bQ n m c a)) u,()),b,()),0,()) by obtain⟨f,O,b,Q,rfl⟩:=p;exact⟨b,Q,O⟩
 unfold qK;refine ae.bs q.check ?_;dsimp only;rw[bm (by rw[x];rfl),bm (by rw[dr,az rfl];rfl)];refine ae.bs (LI U U) ?_;rw[if_pos r];dsimp only;rw[Bool.not_true,cond_false];refine ae.bs (Ry B q x) (ae.bs (Rt B q x) (ae.bs (RF B r) ?_));dsimp only;generalize ad:ig a (eg (bQ n m c a)) u=o;refine ae.bs (gT U) ?_;generalize T:(((a:Int),(a:Int),n,m,c,()):bP)=N;refine ae.aW (P:=λf=>f=(N,((a:Int),(o,()),aq a (λ_=>(some ([],0):gZ)),()),())) ?_ ?_
 ·refine ae.steps a (λl s=>s=((l:Int),N,((a:Int),(o,()),aq a (λi=>if i<l then(some ([],0):gZ) else none),()),())) ?_ ?_ ?_
  ·rw[he];rfl
  ·rintro l _ S rfl;dsimp only;rw[bn (az (show(l:Int)<ax (List.replicate a (none:gZ)) by rw[a7,List.length_replicate];omega)),bA U];refine ae.bs (dy (by rw[bi];omega)) ?_;rw[dw S,fA];refine ae.af.2 ?_;have:aq a (bZ (λi=>if i<l then(some ([],0):gZ) else none) l (some ([],0)))=aq a (λi=>if i<l+1 then(some ([],0):gZ) else none):=by
    refine bR λi D=>?_;by_cases v:i=l
    ·subst v;rw[ew,if_pos U]
    ·rw[eG _ _ v];by_cases F:i<l
     ·rw[if_pos F,if_pos U]
     ·rw[if_neg F,if_neg U]
   dsimp only[Option.map_some];rw[this]
  ·rintro _ rfl;dsimp only;rw[bm (ay (show¬((a:Int)<ax (List.replicate a (none:gZ))) by rw[a7,List.length_replicate];omega))];have:aq a (λi=>if i<a then(some ([],0):gZ) else none)=aq a (λ_=>(some ([],0):gZ)):=bR λi D=>if_pos D;rw[this];exact ae.af.2 rfl
 ·rintro _ rfl;dsimp only;refine ae.aW (P:=λf=>∃b,iK a u (bQ n m c a) b/\f=(((a:Int),(o,()),b,()),())) ?_ (by rintro _ ⟨b,p,rfl⟩;exact ae.af.2 ⟨b,p,rfl⟩);subst T;refine ae.steps a (λd s=>∃b,iK a u (bQ n m c d) b/\s=((d:Int),((a:Int),(a:Int),n,m,c,()),((a:Int),(o,()),b,()),())) ⟨_,iK.nil,rfl⟩ ?_ ?_
  ·rintro d _ w ⟨b,j,rfl⟩;have z:=h.len;obtain⟨e,J⟩:=Int.eq_ofNat_of_zero_le (h.pos d U);obtain⟨k,A⟩:=Int.eq_ofNat_of_zero_le (h.pos (d+1) U);have av:k<=m.length:=(by have:=h.om (d+1) U;omega);have a0:e<=k:=(by have:=h.mono d w;omega);have D:=h.val;have ap:=q.hi;dsimp only;rw[bn (az (U:(d:Int)<(a:Int))),bA U];refine ae.bs (y:=(e:Int)) (by rw[fL U,J]) ?_;have K:bQ n m c (d+1)=bQ n m c d++hx m c (d:Int) e (k-e):=by
    rw[bQ,J,A];rfl
   have W:(bQ n m c (d+1)).Pairwise fF:=qQ h (d+1) U;refine ae.aW (P:=λf=>∃b,iK a u (bQ n m c (d+1)) b/\f=(((a:Int),(a:Int),n,m,c,()),((a:Int),(o,()),b,()),())) ?_ (by rintro _ ⟨b,p,rfl⟩;exact ae.af.2 ⟨b,p,rfl⟩);refine ae.steps (k-e) (λg s=>∃b,iK a u (bQ n m c d++hx m c (d:Int) e g) b/\s=(((e+g:Nat):Int),((a:Int),(a:Int),n,m,c,()),((a:Int),(o,()),b,()),())) ⟨b,by simpa[hx] using j,rfl⟩ ?_ ?_
   ·rintro g _ a4 ⟨b,j,rfl⟩;dsimp only;refine ae.bs (y:=(k:Int)) (by rw[fL U,A]) ?_;rw[bn (az (U:((e+g:Nat):Int)<(k:Int)))];have V:=h.rng d (e+g) w U U;obtain⟨f,C⟩:=Int.eq_ofNat_of_zero_le V.1;have M:(bQ n m c d++hx m c (d:Int) e g++[((f:Int),(d:Int),c.getD (e+g) 0,())]).Pairwise fF:=by
     refine List.Pairwise.sublist ?_ W;rw[K,oT];refine List.Sublist.append (List.Sublist.refl _) ?_;have:hx m c (d:Int) e g++[((f:Int),(d:Int),c.getD (e+g) 0,())]=hx m c (d:Int) e (g+1):=(by rw[hx,C]);rw[this,DU,DU,<-A6 (k-e) (g+1) _ U];exact List.take_sublist _ _
    have R:bQ n m c d++hx m c (d:Int) e (g+1)=bQ n m c d++hx m c (d:Int) e g++[((f:Int),(d:Int),c.getD (e+g) 0,())]:=(by rw[oT,hx,C]);rw[R];refine ae.aW (P:=λZ=>∃b,iK a u (bQ n m c d++hx m c (d:Int) e g++[((f:Int),(d:Int),c.getD (e+g) 0,())]) b/\Z=(((a:Int),(a:Int),n,m,c,()),((a:Int),(o,()),b,()),())) ?_ ?_
    ·refine ae.bs (y:=(f:Int)) (by rw[fL U,C]) ?_;rw[bu];refine ae.ite (λv=>?_) (λv=>?_)
     ·have L:f<a:=U;refine ae.bs (by rw[bX (by rw[bi];omega),gh]) (ae.bs (by rw[bX (by rw[bi];omega),gh]) ?_);obtain⟨t,G,H⟩:∃t:Nat,(t:Int)=hM (fD u f:Int) (fD u d:Int)/\t<a:=by
       have:=(r.pos L).1;have:=(r.pos w).1;unfold hM;split
       ·exact⟨_,rfl,U⟩
       ·exact⟨_,rfl,U⟩
      obtain⟨E,I⟩:∃E:Nat,(E:Int)=hL (fD u f:Int) (fD u d:Int):=by
       unfold hL;split
       ·exact⟨_,rfl⟩
       ·exact⟨_,rfl⟩
      change ae ((bh b.length (hM (fD u f:Int) (fD u d:Int))).bind _) _;rw[<-G];refine ae.bs (dy (by rw[j.len];exact H)) ?_;refine ae.bs (fL U) ?_;refine ae.bs (vi (q.hw _ (by rw[jY U];exact List.getElem_mem _))) ?_;dsimp only;obtain⟨Y,X,z,_⟩:=j.get t H;refine ae.bs (ng z) ?_;change ae ((pH (some (Y,X)) (hL (fD u f:Int) (fD u d:Int)) _).bind _) _;rw[<-I];refine ae.bs rfl ?_;rw[ng z];exact ae.af.2 ⟨_,j.add r M L w U G I z,rfl⟩
     ·exact ae.af.2 ⟨b,j.skip M (by dsimp only;omega),rfl⟩
    ·rintro _ ⟨b,p,rfl⟩;dsimp only;rw[bA U];exact ae.af.2 ⟨b,p,rfl⟩
   ·rintro _ ⟨b,j,rfl⟩;dsimp only;refine ae.bs (y:=(k:Int)) (by rw[fL U,A]) ?_;rw[bm (ay (U:¬((e+(k-e):Nat):Int)<(k:Int)))];exact ae.af.2 ⟨b,by rw[K];exact j,rfl⟩
  ·rintro _ ⟨b,j,rfl⟩;dsimp only;rw[bm (ay (U:¬((a:Int)<(a:Int))))];exact ae.af.2 ⟨b,j,rfl⟩
theorem Mo {E:List bF} (m:iK h c E o) (f:a<h) (l:b<h):xj (some ((h:Int),(g,()),o,()),(a:Int),(b:Int),())=some (bf (ba E c a b),()):=by
 unfold xj;dsimp only;rw[Option.bind_some];have i:∀d e:Nat,d<h->e<h->d<=e->((aA o (d:Int)).bind λt=>some (((iS (α:=di) t (e:Int)).getD (false,((false,([],())),((0:Int),())))),()))=some (bf (ba E c d e),()):=(by intro d e q s r;obtain⟨v,u,n,p⟩:=m.get d q;refine au (fS n) ?_;have:=p e s r;rw[<-this];rfl);by_cases j:(b:Int)<(a:Int)
 ·rw[if_pos j,if_neg U,IM];exact i b a l f U
 ·rw[if_neg j];by_cases k:(b:Int)>(a:Int)
  ·rw[if_pos k];exact i a b f l U
  ·rw[if_neg k];obtain rfl:a=b:=U;exact i a a f f (aY _)
theorem Fc (b:bK e≠2047):∃d,ea e=some d:=by
 have aj:=xu e;have g:=xv e;unfold ea;rw[if_neg b];unfold e8;generalize a:(if e<9223372036854775808 then if bK e=0 then fj e else fj e+4503599627370496 else-(if bK e=0 then fj e else fj e+4503599627370496))=c;have f:aC c.natAbs<=53:=dF.2 (by
  have:(2:Nat)^53=9007199254740992:=aa;rw[this];split at a<;>split at a<;>omega)
 split
 ·exact⟨_,rfl⟩
 ·rw[if_neg (by split<;>omega)];exact⟨_,rfl⟩
theorem Kp:lj (some 0) (some e)=some 0:=by show e8 (bj 0*bj e) _=some 0;rw[x0,rO];rfl
theorem Kq:lj (some e) (some 0)=some 0:=by show e8 (bj e*bj 0) _=some 0;rw[x0,Int.mul_zero];rfl
def iU (a:Nat->Nat->Int) (c d b:Nat):abV:=vh (lj (ea (a b c)) (ea (a b d)))
def h4 (c:Nat->Nat->abV) (d:Nat->Nat->Int) (a b:Nat):abV:=gC (c b a::(List.range a).map (iU d b a))
def lf (b:Nat->Nat->abV) (e:Nat->Nat->Bool) (d:Nat->Nat->Int) (a c:Nat):Int:=
 if c=a then lu (h4 b d a a) 0 else if e a c=true then ow (h4 b d a c) (ea (lu (h4 b d a a) 0)) 0 else 0
def u6 (a:Nat->Nat->abV) (b:Nat->Nat->Bool):Nat->Nat->Nat->Int
 |0=>λ_ _=>0
 |j+1=>λd c=>if d=j then lf a b (u6 a b j) j c else u6 a b j d c
def bq (b:Nat->Nat->abV) (d:Nat->Nat->Bool) (a c:Nat):Int:=u6 b d (a+1) a c
theorem EP {b:Nat->Nat->abV} {f:Nat->Nat->Bool} {a e:Nat}:∀{j},a<j->u6 b f j a e=bq b f a e
 |0,d=>absurd d U
 |j+1,d=>by
  by_cases c:a=j
  ·subst c;rfl
  ·rw[<-EP (j:=j) U];show(if a=j then _ else _)=_;rw[if_neg c]
theorem Mq {f l':Nat->Nat->Int} {i:Nat} (e:∀b,b<a->∀i,f b i=l' b i):h4 d f a i=h4 d l' a i:=by unfold h4;congr 2;refine hU λb c=>?_;have c:=fd.1 c;unfold iU;rw[e b c,e b c]
theorem oo (a:Nat->Nat->abV) (c:Nat->Nat->Bool) (b d:Nat):bq a c b d=lf a c (bq a c) b d:=by show(if b=b then lf a c (u6 a c b) b d else u6 a c b b d)=_;rw[if_pos rfl];unfold lf;rw[Mq (l':=bq a c) (λf e d=>EP e),Mq (i:=d) (l':=bq a c) (λf e d=>EP e)]
theorem Bz (a:Nat->Nat->abV) (d:Nat->Nat->Bool) (c b:Nat):dX (bq a d c b):=by
 rw[oo];unfold lf;split
 ·exact ZS 0
 ·split
  ·exact Zs 0
  ·exact⟨aa,aa⟩
theorem s4 (c:l b a=false) (e:a≠b):bq d l b a=0:=by rw[oo];unfold lf;rw[if_neg e,if_neg (by rw[c];decide)]
theorem MK {g:Type} {c:g->abV} {e:g->Bool}:∀{L:List g},(∀m∈L,e m=false->c m=some 0)->eL ((L.filter e).map c)=eL (L.map c)/\gg ((L.filter e).map c)=gg (L.map c)
 |[],_=>⟨rfl,rfl⟩
 |m::L,h=>by
  obtain⟨i,j⟩:=MK (L:=L) λl k=>h l (by simp[k]);by_cases f:e m=true
  ·rw[oX f,er,er];have aj:∀a b,eL (a::b)=eL [a]+eL b:=λa b=>yv [a] b;have d:∀a b,gg (a::b)=(gg [a]&&gg b):=λa b=>y3 [a] b;rw[aj,aj _ (L.map c),d,d _ (L.map c),i,j];exact⟨rfl,rfl⟩
  ·rw[oW f,er,h m ac (by simpa using f)];have aj:∀a b,eL (a::b)=eL [a]+eL b:=λa b=>yv [a] b;have d:∀a b,gg (a::b)=(gg [a]&&gg b):=λa b=>y3 [a] b;rw[aj,d,i,j];refine⟨?_,?_⟩
   ·show _=(0:Int)+0+_;omega
   ·show _=(true&&true&&_);simp
theorem ML {d:p->abV} {g:p->Bool} {c:List p} {a:abV} (h:∀f∈c,g f=false->d f=some 0):gC (a::(c.filter g).map d)=gC (a::c.map d):=by obtain⟨i,j⟩:=MK h;have aj:∀a b,eL (a::b)=eL [a]+eL b:=λa b=>yv [a] b;have e:∀a b,gg (a::b)=(gg [a]&&gg b):=λa b=>y3 [a] b;unfold gC;rw[aj,aj _ (c.map d),e,e _ (c.map d),i,j]
def a1 (a:c7) (c b:Nat):Bool:=decide ((b:Int)∈bk a c)
theorem th:a1 g b a=true↔a<g.length/\jk g b a:=by unfold a1;rw[decide_eq_true_eq,mJ]
theorem Zo (c:a1 g b a=true):b<=a:=(th.1 c).2.le
theorem B8 (b:a<g.length):a1 g a a=true:=th.2 ⟨b,.inl rfl⟩
theorem zi {G:c7} {j:Nat} {x:Int} (b:x∈bk G j):∃a:Nat,x=(a:Int)/\a<G.length/\j<=a/\a1 G j a=true:=by have d:=b;unfold bk jc at b;obtain⟨a,e,rfl⟩:=bT.1 b;have c:=mJ.1 d;exact⟨a,rfl,c.1,c.2.le,th.2 c⟩
theorem SZ {G:c7} {j:Nat} (i:j<G.length):∃b,bk G j=(j:Int)::b/\∀g∈b,(j:Int)<g:=by
 have a:(j:Int)∈bk G j:=mJ.2 ⟨i,.inl rfl⟩;have f:=zh G j;cases d:bk G j with
 |nil=>rw[d] at a;cases a
 |cons h b=>
  rw[d] at a f;obtain⟨e,k⟩:=lF.1 f;rcases dh.1 a with c|c
  ·subst c;exact⟨b,rfl,e⟩
  ·have:=e _ c;obtain⟨m,rfl,_,l,_⟩:=zi (G:=G) (j:=j) (x:=h) (by rw[d];simp);omega
theorem ww {G:c7} (a:Nat):(bk G a).length<=G.length:=Dn _ _ _
def gk (b:c7) (d a:Nat):ab1:=gB ((List.range (min d a)).filter λc=>a1 b c a)
theorem HO (D:a<=5) (t:g.length=a) (u:b2 g) (v:∀z∈g,z.length<4611686018427387904) (s:List gZ):wy (some ((a:Int),(g,()),s,()),())=some ((aq a (bk g),(aq a λ_=>[]),(aq a λ_=>none),(aq a λb=>gk g a b),()),()):=by
 unfold wy;dsimp only;rw[Option.bind_some];refine au (ND u v U) ?_;rw[t];refine au rfl (au (gT U) (au rfl (au (gT U) (au rfl (au (gT U) ?_)))));refine ae.eq_iff.1 ?_;dsimp only;have w:(List.range a).map (bk g)=aq a (bk g):=rfl;rw[w];refine ae.aW (P:=λj=>j=((aq a (bk g),(aq a λ_=>[]),(aq a λ_=>none),(aq a λb=>gk g a b),()),())) ?_ (by rintro _ rfl;exact ae.af.2 rfl);refine ae.steps a (λc d=>d=((c:Int),(aq a (bk g),(aq a λ_=>[]),(aq a λ_=>none),(aq a λb=>gk g c b),()),())) ?_ ?_ ?_
 ·rw[he,he];have:(aq a λ_=>([]:ab1))=aq a λb=>gk g 0 b:=bR λb _=>by
   unfold gk;rw[Nat.zero_min];rfl
  rw[<-this];rfl
 ·rintro c _ F rfl;dsimp only;rw[bn (az (show(c:Int)<ax (aq a (bk g)) by rw[a7,bi];omega)),bA U];refine ae.bs (by rw[bX (by rw[bi];omega),gh]) ?_;have C:=ww (G:=g) c;have x:∀c b,(gk g c b).length<=b:=λc b=>by
   unfold gk;rw[vf];refine dn (h6 _ _) ?_;rw[qf];omega
  refine ae.aW (P:=λj=>j=((aq a (bk g),(aq a λ_=>[]),(aq a λ_=>none),(aq a λb=>gk g (c+1) b),()),())) ?_ (by rintro _ rfl;exact ae.af.2 rfl);refine ae.steps (bk g c).length (λd A=>A=((d:Int),(aq a (bk g),(aq a λ_=>[]),(aq a λ_=>none),(aq a λb=>gk g c b++if(b:Int)∈(bk g c).take d/\c<b then[(c:Int)] else[]),()),())) ?_ ?_ ?_
  ·have:(aq a λb=>gk g c b)=aq a λb=>gk g c b++if(b:Int)∈(bk g c).take 0/\c<b then[(c:Int)] else[]:=bR λb _=>by simp
   rw[<-this];rfl
  ·rintro d _ n rfl;dsimp only;rw[bn (az (show(d:Int)<ax (bk g c) by rw[a7];omega)),bA U];obtain⟨h,r,J,H,E⟩:=zi (List.getElem_mem n);have q:(bk g c).take (d+1)=(bk g c).take d++[(h:Int)]:=(by rw[List.take_add_one,List.getElem?_eq_getElem n,r];rfl);have o:(h:Int)∉(bk g c).take d:=λe=>by
    obtain⟨B,I,i⟩:=List.mem_take_iff_getElem.1 e;have:=gx.1 (zh g c) B d U n U;omega
   refine ae.aW (P:=λj=>j=((aq a (bk g),(aq a λ_=>[]),(aq a λ_=>none),(aq a λb=>gk g c b++if(b:Int)∈(bk g c).take (d+1)/\c<b then[(c:Int)] else[]),()),())) ?_ (by rintro _ rfl;exact ae.af.2 rfl);refine ae.bs (y:=(h:Int)) (by rw[bX n,r]) ?_;have p:∀b:Nat,b≠h->((b:Int)∈(bk g c).take (d+1)↔(b:Int)∈(bk g c).take d):=λb m=>(by rw[q,eH,eS];exact⟨λe=>e.resolve_right λe=>m U,.inl⟩);rw[bu];refine ae.ite (λk=>?_) (λk=>?_)
   ·refine ae.bs (dy (by rw[bi];omega)) ?_;rw[dw U,aG,if_neg (λe=>o e.1),mj];have:=x c h;rw[dZ (by simp;omega),aG];refine ae.bs (dy (by rw[bi];omega)) ?_;rw[bn ac];rw[dw U,aG,if_neg (λe=>o e.1),mj,dw U,fA];refine ae.af.2 ?_;have:aq a (bZ (λb=>gk g c b++if(b:Int)∈(bk g c).take d/\c<b then[(c:Int)] else[]) h (gk g c h++[(c:Int)]))=aq a λb=>gk g c b++if(b:Int)∈(bk g c).take (d+1)/\c<b then[(c:Int)] else[]:=by
     refine bR λb m=>?_;by_cases i:b=h
     ·subst i;rw[ew,if_pos ⟨by rw[q];simp,U⟩]
     ·rw[eG _ _ i];have:=p b i;by_cases f:(b:Int)∈(bk g c).take d/\c<b
      ·rw[if_pos f,if_pos ⟨this.2 f.1,f.2⟩]
      ·rw[if_neg f,if_neg λe=>f ⟨this.1 e.1,e.2⟩]
    rw[<-this]
   ·refine ae.af.2 ?_;have:(aq a λb=>gk g c b++if(b:Int)∈(bk g c).take d/\c<b then[(c:Int)] else[])=aq a λb=>gk g c b++if(b:Int)∈(bk g c).take (d+1)/\c<b then[(c:Int)] else[]:=by
     refine bR λb m=>?_;by_cases i:b=h
     ·subst i;rw[if_neg U,if_neg U]
     ·have:=p b i;by_cases f:(b:Int)∈(bk g c).take d/\c<b
      ·rw[if_pos f,if_pos ⟨this.2 f.1,f.2⟩]
      ·rw[if_neg f,if_neg λe=>f ⟨this.1 e.1,e.2⟩]
    rw[<-this]
  ·rintro _ rfl;dsimp only;rw[bm (ay (show¬(((bk g c).length:Nat):Int)<ax (bk g c) by rw[a7];omega)),List.take_of_length_le (Nat.le_refl _)];refine ae.af.2 ?_;have:(aq a λb=>gk g c b++if(b:Int)∈bk g c/\c<b then[(c:Int)] else[])=aq a λb=>gk g (c+1) b:=by
    refine bR λb m=>?_;unfold gk;by_cases k:c<b
    ·rw[gm U,gm U,iZ,iX,Kv];congr 1;by_cases l:(b:Int)∈bk g c
     ·rw[if_pos ⟨l,k⟩,oX (by unfold a1;exact az l)];rfl
     ·rw[if_neg (λe=>l e.1),oW (by unfold a1;simpa using l)];rfl
    ·rw[tV U,tV U,if_neg (λe=>k e.2),mj]
   rw[this]
 ·rintro _ rfl;dsimp only;rw[bm (ay (show¬((a:Int)<ax (aq a (bk g))) by rw[a7,bi];omega))];exact ae.af.2 rfl
def iW (d:Nat->Nat->abV) (b:c7) (e:Nat):Prop:=∀a,a<e->∀c,a1 b a c=true->bK (bq d (a1 b) a c)≠2047
theorem iW.of (e:iW d g b) {i:Nat} (f:a<b) (j:a<i):∃h,ea (bq d (a1 g) a i)=some h:=by
 by_cases c:a1 g a i=true
 ·exact Fc (e a f i c)
 ·rw[s4 (by simpa using c) U,rp];exact⟨0,rfl⟩
theorem MU (e:iW d g a) {i:Nat} (f:b<a) (m:a<=i) (c:a1 g b i=false\/a1 g b a=false):iU (bq d (a1 g)) i a b=some 0:=by
 unfold iU;obtain⟨k,h⟩:=e.of f (i:=i) U;obtain⟨l,j⟩:=e.of f (i:=a) U;rcases c with c|c
 ·rw[s4 c U,rp,j,Kp];rfl
 ·rw[s4 c U,rp,h,Kq];rfl
structure kY (A:Nat->Nat->abV) (G:c7) (n j:Nat) (X:List gZ):Prop where
 len:X.length=n
 get:∀m,m<j->∃l c,X[m]?=some (some (l,c))/\∀i,i<n->en l (i:Int)=if a1 G m i=true then some (bf (ea (bq A (a1 G) m i))) else none
theorem Gk (c:Nat->Nat->Int) (a b d:Nat):e1 (iU c a b d):=Wm (E0 _ _)
theorem yk (a:Nat->Nat->abV) (d:Nat->Nat->Int) (c b:Nat):e1 (h4 a d c b):=MM _
theorem Ms {g:Nat} (T:g<=5) {f:ab1} {E:List bF} {q:List gZ} (I:iK g f E q) {e D:c7} {b:Nat} (x:b<g) (v:iW (ba E f) e b) {r:List gZ} (J:kY (ba E f) e g b r) (O:c7) (G:c7) {c:Nat} (w:c<g) (z:b<=c):wA (some (G,O,r,(aq g λc=>gk e g c),()),some ((g:Int),(D,()),q,()),(c:Int),(b:Int),())=some (bf (h4 (ba E f) (bq (ba E f) (a1 e)) b c),()):=by
 unfold wA;refine au (Mo I w x) ?_;refine au rfl ?_;refine au (by rw[bX (by rw[bi];omega),gh]) ?_;dsimp only;have M:gk e g b=gB ((List.range b).filter λa=>a1 e a b):=(by unfold gk;rw[Nat.min_eq_right U]);rw[M];generalize l:(List.range b).filter (λa=>a1 e a b)=d;have u:∀a∈d,a<b/\a1 e a b=true:=λa i=>(by rw[<-l] at i;exact⟨List.mem_range.1 (List.mem_filter.1 i).1,(List.mem_filter.1 i).2⟩);have S:d.length<=5:=by rw[<-l];refine Nat.le_trans (List.length_filter_le _ _) ?_;rw[List.length_range];omega
 let Q:=ba E f
 let j:=iU (bq (ba E f) (a1 e)) c b
 refine ae.eq_iff.1 ?_;refine ae.aW (P:=λp=>p=(lg,(ba E f c b::(d.filter λa=>a1 e a c).map j).map bf,())) ?_ ?_
 ·refine ae.steps d.length (λh N=>N=((h:Int),lg,(ba E f c b::((d.take h).filter λa=>a1 e a c).map j).map bf,())) rfl ?_ ?_
  ·rintro h _ n rfl;dsimp only;rw[bn (az (show(h:Int)<ax (gB d) by rw[a7,vf];omega)),bA U];refine ae.aW (P:=λp=>p=(lg,(ba E f c b::((d.take (h+1)).filter λa=>a1 e a c).map j).map bf,())) ?_ (by rintro _ rfl;exact ae.af.2 rfl);obtain⟨K,L⟩:=u d[h] (List.getElem_mem n);refine ae.bs (y:=((d[h]:Nat):Int)) (by rw[bX (by rw[vf];exact n)];simp[gB]) ?_;rw[Gi n];generalize d[h]=a at*;obtain⟨C,F,s,t⟩:=J.get a K;refine ae.bs rfl (ae.bs (fS s) ?_);have A:∀B:Nat,iS (α:=di) (some (C,F)) (B:Int)=en C (B:Int):=λ_=>rfl;rw[A c,t c w];by_cases k:a1 e a c=true
   ·rw[if_pos k,if_pos k,yR,cond_true];refine ae.bs rfl (ae.bs (fS s) ?_);rw[A b,t b x,if_pos L];refine ae.bs (It (mN _) (mN _)) (ae.bs (Iu (E0 _ _)) ?_);have:((d.take h).filter λa=>a1 e a c).length<=5:=by
     refine dn (h6 _ _) ?_;rw[eC];omega
    rw[dZ (by simp;omega)];refine ae.af.2 ?_;rw[fZ,<-jm,fZ];rfl
   ·rw[if_neg k,if_neg k,Option.isSome_none,cond_false,mj];exact ae.af.2 rfl
  ·rintro _ rfl;dsimp only;rw[bm (ay (show¬((d.length:Int)<ax (gB d)) by rw[a7,vf];omega)),List.take_of_length_le (Nat.le_refl _)];exact ae.af.2 rfl
 ·rintro _ rfl;dsimp only;refine ae.bs (Iv ?_ ?_) (ae.af.2 ?_)
  ·intro R m;rcases dh.1 m with rfl|m
   ·exact mN _
   ·obtain⟨a,_,rfl⟩:=bT.1 m;exact Gk _ _ _ _
  ·have:=h6 (λa=>a1 e a c) d;simp only[h5,gw];omega
  ·have aj:gC (ba E f c b::(d.filter λa=>a1 e a c).map j)=gC (ba E f c b::d.map j):=ML λa i o=>MU v (u a i).1 z (.inl o);have H:gC (ba E f c b::d.map j)=gC (ba E f c b::(List.range b).map j):=by
    rw[<-l];exact ML λa i o=>MU v (fd.1 i) z (.inr o)
   rw[aj,H];rfl
def fN (c:Nat->Nat->abV) (a:c7) (b:Nat):ab1:=(bk a b).map λd=>bq c (a1 a) b d.toNat
def dN (b:Nat->Nat->abV) (c:c7) (a:Nat):Int:=open Classical in if oC (h4 b (bq b (a1 c)) a a)<=0\/uY (bq b (a1 c) a a)=0 then 231 else if∀d,a1 c a d=true->bK (bq b (a1 c) a d)≠2047 then 0 else 233
def lH (d:Nat->Nat->abV) (e:c7) (i b:Nat) (f:ab1) (g:List gZ):Prop:=∃c h,g[b]?=some (some (c,h))/\∀a,a<i->en c ((a:Nat):Int)=if((a:Nat):Int)∈f then some (bf (ea (bq d (a1 e) b a))) else none
theorem kY.set {b:Nat->Nat->abV} {c:c7} {f a:Nat} {d:List gZ} (e:kY b c f a d) (m:gZ):kY b c f a (d.set a m) where
 len:=by rw[o4,e.len]
 get:=λl j=>by obtain⟨k,g,h,i⟩:=e.get l j;exact⟨k,g,by rw[lE U,h],i⟩
theorem kY.next (h:kY d g b a o) (n:lH d g b a (bk g a) o):kY d g b (a+1) o where
 len:=h.len
 get:=λe q=>by
  rcases bb e a with f|f
  ·exact h.get e f
  ·obtain rfl:e=a:=U;obtain⟨p,j,k,l⟩:=n;refine⟨p,j,k,λi m=>?_⟩;rw[l i m];unfold a1;by_cases c:(i:Int)∈bk g e
   ·rw[if_pos c,if_pos (az c)]
   ·rw[if_neg c,if_neg (by simpa using c)]
theorem lH.one {b:Nat->Nat->abV} {c:c7} {i a:Nat} {d:List gZ} (g:a<d.length) (e:Nat):lH b c i a [(a:Int)] (d.set a (some (hk [] (a:Int) (bf (ea (bq b (a1 c) a a))),e))):=by
 refine⟨_,_,ky g,λh j=>?_⟩;rw[xP];by_cases f:h=a
 ·subst f;rw[if_pos rfl,if_pos ac]
 ·rw[if_neg U,if_neg (by simp;omega)];rfl
theorem lH.add (k:o[a]?=some (some (z,h))) (n:lH d g b a c o) (e:Nat) (s:di) (l:Nat):lH d g b a (c++[(e:Int)]) (o.set a (some (hk (hk z (e:Int) s) (e:Int) (bf (ea (bq d (a1 g) a e))),l))):=by
 have r:a<o.length:=(ey.1 k).1;obtain⟨u,t,j,p⟩:=n;rw[k] at j;cases j;refine⟨_,_,ky r,λi q=>?_⟩;rw[xP,xP,p i q];by_cases m:i=e
 ·subst m;rw[if_pos rfl,if_pos ac]
 ·rw[if_neg U,if_neg U];by_cases f:(i:Int)∈c
  ·rw[if_pos f,if_pos (by simp[f])]
  ·rw[if_neg f,if_neg (by simp[f];omega)]
theorem Tb (a0:b<=5) {E:List bF} {F:List gZ} (Z:iK b c E F) {V:c7} (d6:g.length=b) (r:a<b) (am:iW (ba E c) g a) (M:kY (ba E c) g b a o):ae (zn ((aq b (bk g),(aq b λf=>if f<a then fN (ba E c) g f else[]),o,(aq b λd=>gk g b d),()),some ((b:Int),(V,()),F,()),(a:Int),())) λe=>e.2.1=dN (ba E c) g a/\(dN (ba E c) g a=0->∃k,kY (ba E c) g b (a+1) k/\e.1=(aq b (bk g),(aq b λf=>if f<a+1 then fN (ba E c) g f else[]),k,(aq b λd=>gk g b d),())):=by
 classical
 unfold zn;refine ae.bs (Ms a0 Z r am M _ _ r (Nat.le_refl _)) ?_;dsimp only;refine ae.bs (mC (yk _ _ _ _)) ?_;dsimp only;have a3:bq (ba E c) (a1 g) a a=lu (h4 (ba E c) (bq (ba E c) (a1 g)) a a) 0:=(by rw[oo];unfold lf;rw[if_pos rfl]);rw[bu];refine ae.ite (λH=>?_) (λH=>?_)
 ·refine ae.af.2 ?_;have n:dN (ba E c) g a=231:=(by unfold dN;rw[if_pos (.inl H)]);exact⟨n.symm,λh=>by rw[n] at h;cases h⟩
 refine ae.bs (Jc (yk _ _ _ _)) ?_;dsimp only;rw[<-a3];have C:=Bz (ba E c) (a1 g) a a;refine ae.bs (JL C) ?_;dsimp only;rw[dT,bu];refine ae.ite (λI=>?_) (λI=>?_)
 ·refine ae.af.2 ?_;have n:dN (ba E c) g a=231:=(by unfold dN;rw[if_pos (.inr I)]);exact⟨n.symm,λh=>by rw[n] at h;cases h⟩
 have n:dN (ba E c) g a=if∀d,a1 g a d=true->bK (bq (ba E c) (a1 g) a d)≠2047 then 0 else 233:=by unfold dN;rw[if_neg (λh=>h.elim H I)]
 have c2:∀d,d≠a->a1 g a d=true->bq (ba E c) (a1 g) a d=ow (h4 (ba E c) (bq (ba E c) (a1 g)) a d) (ea (bq (ba E c) (a1 g) a a)) 0:=λd z A=>(by rw[oo];unfold lf;rw[if_neg z,if_pos A,<-a3]);have cv:∀d,e1 (h4 (ba E c) (bq (ba E c) (a1 g)) a d):=λd=>yk _ _ _ _;have ds:=@Ms b a0 c E F Z g V a r am;have ap:=Bz (ba E c) (a1 g);obtain⟨e,s,dl⟩:=SZ (G:=g) (j:=a) U;have av:∀i∈e,∃d:Nat,i=(d:Int)/\d<b/\a<d/\a1 g a d=true:=λi m=>(by obtain⟨d,rfl,z,A,L⟩:=zi (G:=g) (j:=a) (x:=i) (by rw[s];simp[m]);exact⟨d,rfl,U,by have:=dl _ m;omega,L⟩);have O:(∀d,a1 g a d=true->bK (bq (ba E c) (a1 g) a d)≠2047)↔bK (bq (ba E c) (a1 g) a a)≠2047/\∀i∈e,bK (bq (ba E c) (a1 g) a i.toNat)≠2047:=by
  constructor
  ·intro h;refine⟨h a (B8 U),λi m=>?_⟩;obtain⟨d,rfl,_,_,L⟩:=av i m;exact h d L
  ·rintro⟨z,A⟩ d an;have:(d:Int)∈bk g a:=(by unfold a1 at an;exact of_decide_eq_true an);rw[s] at this;rcases dh.1 this with X|X
   ·obtain rfl:d=a:=U;exact z
   ·exact A _ X
 have d1:fN (ba E c) g a=bq (ba E c) (a1 g) a a::e.map λd=>bq (ba E c) (a1 g) a d.toNat:=(by unfold fN;rw[s,List.map_cons,Int.toNat_natCast]);have d9:e.length<=5:=(by have:=ww (G:=g) a;rw[s,List.length_cons] at this;omega);have cs:lH (ba E c) g b a (bk g a)=lH (ba E c) g b a ((a:Int)::e):=(by rw[s]);refine ae.bs (vi C) ?_;dsimp only;refine ae.bs rfl ?_;refine ae.bs (dy (by rw[bi];omega)) ?_;rw[dw r,fA];refine ae.bs rfl ?_;dsimp only;have d7:=M.len;refine ae.bs (dy U) ?_;rw[ng (List.getElem?_eq_getElem (U:a<o.length))];refine ae.bs rfl ?_;dsimp only;have N:kY (ba E c) g b a (o.set a (some (hk [] (a:Int) (bf (ea (bq (ba E c) (a1 g) a a))),1))):=M.set _;have ab:lH (ba E c) g b a [(a:Int)] (o.set a (some (hk [] (a:Int) (bf (ea (bq (ba E c) (a1 g) a a))),1))):=lH.one U 1;change ae ((qB (bq (ba E c) (a1 g) a a,())).bind _) _;change kY (ba E c) g b a (o.set a (some (hk [] (a:Int) (bf (ea (bq (ba E c) (a1 g) a a))),1))) at N;generalize ci:o.set a (some (hk [] (a:Int) (bf (ea (bq (ba E c) (a1 g) a a))),1))=bB at N ab;refine ae.bs (Bo C) ?_;dsimp only;rw[Bool.not_not,bu];refine ae.ite (λJ=>?_) (λJ=>?_)
 ·refine ae.af.2 ?_;rw[n,if_neg (λh=>(O.1 h).1 J)];exact⟨rfl,λh=>by cases h⟩
 refine ae.bs (by rw[bX (by rw[bi];omega),gh]) ?_;have a4:((fU 1).bind λbd=>(some ((bk g a).length)).bind λbl=>(gj bd bl (bk g a).length).map λ_=>(bd,bl))=some (1,(bk g a).length):=(by rw[s];show((gj 1 (e.length+1) (e.length+1)).map λ_=>(1,e.length+1))=_;unfold gj;rw[if_pos ⟨U,U⟩];rfl);refine ae.bs a4 ?_;dsimp only;have ad:((bk g a).take (bk g a).length).drop 1=e:=(by rw[List.take_length,s];rfl);rw[ad];clear a4 ad;refine ae.aW (P:=λT=>(∃k,kY (ba E c) g b a k/\lH (ba E c) g b a ((a:Int)::e) k/\(∀i∈e,bK (bq (ba E c) (a1 g) a i.toNat)≠2047)/\T=.inl ((aq b (bk g),(aq b λf=>if f<a+1 then fN (ba E c) g f else[]),k,(aq b λd=>gk g b d),()),()))\/∃W,T=.inr (W,233,())/\∃i∈e,bK (bq (ba E c) (a1 g) a i.toNat)=2047) ?_ ?_
 ·refine ae.steps e.length (λl d5=>∃k,kY (ba E c) g b a k/\lH (ba E c) g b a ((a:Int)::e.take l) k/\(∀i∈e.take l,bK (bq (ba E c) (a1 g) a i.toNat)≠2047)/\d5=((l:Int),(aq b (bk g),aq b (bZ (λf=>if f<a then fN (ba E c) g f else[]) a (bq (ba E c) (a1 g) a a::(e.take l).map λd=>bq (ba E c) (a1 g) a d.toNat)),k,(aq b λd=>gk g b d),()),())) ?_ ?_ ?_
  ·exact⟨bB,N,ab,ac,by rw[<-ci];rfl⟩
  ·rintro l _ B ⟨k,u,t,v,rfl⟩;dsimp only;rw[bn (az (show(l:Int)<ax e by rw[a7];omega))];obtain⟨p,S,d2,d8,c1⟩:=av e[l] (List.getElem_mem B);have R:e.take (l+1)=e.take l++[(p:Int)]:=(by rw[List.take_add_one,List.getElem?_eq_getElem B,S];rfl);refine ae.bs (y:=(p:Int)) (by rw[bX B,S]) ?_;refine ae.bs (ds u _ _ d2 U) ?_;dsimp only;refine ae.bs (vi C) ?_;dsimp only;refine ae.bs (I9 (cv p) (mN _)) ?_;dsimp only;rw[<-c2 p U c1];refine ae.bs (Bo (ap a p)) ?_;dsimp only;rw[Bool.not_not,bu];refine ae.ite (λK=>?_) (λK=>?_)
   ·exact ae.af.2 (.inr ⟨_,rfl,(p:Int),by rw[<-S];exact bI B,K⟩)
   obtain⟨d4,ce,w,co⟩:=t;have Q:a<k.length:=(List.getElem?_eq_some_iff.1 w).1;refine ae.bs (dy Q) (ae.bs (dy (by rw[bi];omega)) ?_);rw[dw r,ew];refine ae.bs rfl ?_;rw[dZ (by simp;omega)];refine ae.bs rfl ?_;refine ae.bs (vi (ap a p)) ?_;dsimp only;refine ae.bs (dy (by rw[bi];omega)) ?_;rw[bn ac,dw r,ew];refine ae.bs rfl ?_;rw[dw r,fA];refine ae.bs rfl ?_;dsimp only;refine ae.bs (ng w) ?_;refine ae.bs rfl ?_;rw[ng w];refine ae.bs rfl ?_;dsimp only;rw[bn ac];refine ae.bs (ng (List.getElem?_set_self Q)) ?_;refine ae.bs rfl ?_;rw[ng (List.getElem?_set_self Q)];refine ae.bs rfl ?_;dsimp only;rw[bA U,List.set_set];have aj:aq b (bZ (bZ (λf=>if f<a then fN (ba E c) g f else[]) a (bq (ba E c) (a1 g) a a::(e.take l).map λd=>bq (ba E c) (a1 g) a d.toNat)) a (bq (ba E c) (a1 g) a a::((e.take l).map λd=>bq (ba E c) (a1 g) a d.toNat)++[bq (ba E c) (a1 g) a p]))=aq b (bZ (λf=>if f<a then fN (ba E c) g f else[]) a (bq (ba E c) (a1 g) a a::(e.take (l+1)).map λd=>bq (ba E c) (a1 g) a d.toNat)):=by
    refine bR λD d0=>?_;by_cases q:D=a
    ·subst q;rw[ew,ew,R,fZ];rfl
    ·rw[eG _ _ q,eG _ _ q,eG _ _ q]
   rw[aj];refine ae.af.2 ⟨_,u.set _,?_,?_,rfl⟩
   ·rw[R,<-jm];exact lH.add w ⟨d4,ce,w,co⟩ p _ _
   ·intro i m;rw[R,eH,eS] at m;rcases m with m|rfl
    ·exact v i m
    ·exact K
  ·rintro _ ⟨k,u,t,v,rfl⟩;dsimp only;rw[List.take_of_length_le (Nat.le_refl _)] at t v|-;rw[bm (ay (show¬((e.length:Int)<ax e) by rw[a7];omega))];refine ae.af.2 (.inl ⟨k,u,t,v,?_⟩);have aj:aq b (bZ (λf=>if f<a then fN (ba E c) g f else[]) a (bq (ba E c) (a1 g) a a::e.map λd=>bq (ba E c) (a1 g) a d.toNat))=aq b λf=>if f<a+1 then fN (ba E c) g f else[]:=by
    refine bR λD d0=>?_;by_cases q:D=a
    ·subst q;rw[ew,if_pos U,d1]
    ·rw[eG _ _ q];by_cases Y:D<a
     ·rw[if_pos Y,if_pos U]
     ·rw[if_neg Y,if_neg U]
   rw[aj]
 ·rintro T (⟨k,u,t,v,rfl⟩|⟨W,rfl,i,m,d3⟩)
  ·dsimp only;refine ae.af.2 ?_;rw[n,if_pos (O.2 ⟨J,v⟩)];exact⟨rfl,λ_=>⟨k,u.next (by rw[cs];exact t),rfl⟩⟩
  ·dsimp only;refine ae.af.2 ?_;rw[n,if_neg (λh=>(O.1 h).2 i m d3)];exact⟨rfl,λh=>by cases h⟩
def kL (a:c7):Nat->ab1
 |0=>[]
 |j+1=>kL a j++bk a j
def tB (a:Nat->Nat->abV) (b:c7):Nat->ab1
 |0=>[]
 |j+1=>tB a b j++fN a b j
def sL (c:Nat->Nat->abV) (a:c7) (e:ab1) (b:Nat):it:=(e,(aq (b+1) (λd=>((kL a d).length:Int)),(kL a b,(tB c a b,()))))
def kp:it:=(([]:aX),(([]:aX),(([]:aX),(([]:aX),()))))
def l0 (b:Nat->Nat->abV) (c:c7) (e:ab1) (d:Nat):r7:=match(List.range d).find? λa=>decide (dN b c a≠0) with
 |some a=>if dN b c a=231 then(kp,(a:Int),231,()) else(kp,0,dN b c a,())
 |none=>(sL b c e d,(d:Int),0,())
theorem JW {o:ab1} (e:∀c,c<a->dN d g c=0) (h:a<b) (f:dN d g a≠0):l0 d g o b=if dN d g a=231 then(kp,(a:Int),231,()) else(kp,0,dN d g a,()):=by have:(List.range b).find? (λa=>decide (dN d g a≠0))=some a:=(by rw[List.find?_eq_some_iff_getElem];refine⟨az f,a,by simpa using h,ac,λc i=>?_⟩;simp only[List.getElem_range];simpa using e c i);unfold l0;rw[this]
theorem EG (e:∀b,b<a->dN d g b=0):l0 d g c a=(sL d g c a,(a:Int),0,()):=by have:(List.range a).find? (λh=>decide (dN d g h≠0))=none:=(by rw[List.find?_eq_none];intro b f;simpa using e b (fd.1 f));unfold l0;rw[this]
theorem TR (b:dN d g a=0):∀c,a1 g a c=true->bK (bq d (a1 g) a c)≠2047:=by
 unfold dN at b;split at b
 ·cases b
 ·split at b
  ·assumption
  ·cases b
theorem Bk (c:∀b,b<a->dN d g b=0):iW d g a:=λb e=>TR (c b e)
theorem En (a:c7):∀j,(kL a j).length<=j*a.length
 |0=>bN _
 |j+1=>by rw[kL,nP,eD,g0];have:=En a j;have:=ww (G:=a) j;omega
theorem Gx (b:Nat->Nat->abV) (a:c7):∀j,(tB b a j).length=(kL a j).length
 |0=>rfl
 |j+1=>by rw[kL,tB,nP,nP,Gx b a j];unfold fN;rw[gw]
theorem SS (d:c.length<=100000000):Ab (c,())=some (c,()):=by
 unfold Ab;have a:((bS (([]:ab1).length+c.length)).bind λ_=>some (([]++c:ab1),()))=some (c,()):=(by rw[dZ (by simp;omega)];rfl);show mM c.length (some ([],())) ((bS (([]:ab1).length+c.length)).bind λ_=>some (([]++c:ab1),()))=_;unfold mM;rw[a];split
 ·rename_i b;obtain rfl:=k2 b;rw[if_pos rfl]
 ·rfl
theorem IW (q:a<=5) (o:g.length=a) (r:c.length<=1000000) (e:List gZ) (bz:c7):wz (some (aq a (bk g),aq a (fN d g),e,bz,()),c,())=some (sL d g c a,()):=by
 unfold wz;refine au (SS U) ?_;refine au rfl ?_;refine ae.eq_iff.1 ?_;dsimp only;refine ae.aW (P:=λh=>h=(kp,sL d g c a,())) ?_ (by rintro _ rfl;exact ae.af.2 rfl);refine ae.steps a (λb i=>i=((b:Int),kp,(c,(aq (b+1) (λf=>((kL g f).length:Int)),(kL g b,(tB d g b,())))),())) ?_ ?_ ?_
 ·rfl
 ·rintro b _ p rfl;dsimp only;rw[bn (az (show(b:Int)<ax (aq a (bk g)) by rw[a7,bi];omega)),bA U];refine ae.bs rfl ?_;refine ae.bs (by rw[bX (by rw[bi];omega),gh]) ?_;have j:=En g b;have k:=ww (G:=g) b;have l:=Gx d g b;have m:b*g.length<=5*5:=Nat.mul_le_mul U U;have n:(fN d g b).length=(bk g b).length:=(by unfold fN;rw[List.length_map]);rw[dZ U];refine ae.bs rfl (ae.bs rfl ?_);refine ae.bs (by rw[bX (by rw[bi];omega),gh]) ?_;rw[dZ U];refine ae.bs rfl ?_;rw[dZ (by rw[bi];simp;omega)];refine ae.bs rfl (ae.af.2 ?_);rw[n9 (b+1)];rfl
 ·rintro _ rfl;dsimp only;rw[bm (ay (show¬((a:Int)<ax (aq a (bk g))) by rw[a7,bi];omega))];exact ae.af.2 rfl
theorem GU {n:Nat} {d:ab1} (h:n<=5) (f:hq n n u m d) (H:gq n n u m d=0) (p:eZ c n):pn (((n:Int),(n:Int),u,m,d,()),c,())=some (l0 (ba (bQ u m d n) c) (ig n (eg (bQ u m d n)) c) c n):=by
 obtain⟨z,D,F⟩:=GZ h f H p;have q:=uU (E:=eg (bQ u m d n)) p;have C:=xC n (eg (bQ u m d n)) c;have B:=Jo (E:=eg (bQ u m d n)) h p;have L:=p.1;unfold pn;refine au F ?_;dsimp only;rw[bm (show((0:Int)!=0)=false from rfl)];generalize ig n (eg (bQ u m d n)) c=b at*;generalize bQ u m d n=E at*;refine au (HO h q C B z) (au rfl ?_);refine ae.eq_iff.1 ?_;dsimp only;refine ae.aW (P:=λs=>(s=.inr (l0 (ba E c) b c n))\/(∃e,s=.inl (kp,(aq n (bk b),aq n (fN (ba E c) b),e,(aq n λr=>gk b n r),()),()))/\l0 (ba E c) b c n=(sL (ba E c) b c n,(n:Int),0,())) ?_ ?_
 ·refine ae.steps n (λg I=>(∀a,a<g->dN (ba E c) b a=0)/\∃e,kY (ba E c) b n g e/\I=((g:Int),kp,(aq n (bk b),(aq n λa=>if a<g then fN (ba E c) b a else[]),e,(aq n λr=>gk b n r),()),())) ?_ ?_ ?_
  ·exact⟨λa f=>absurd f U,aq n (λ_=>none),⟨bi _ _,λa f=>absurd f U⟩,rfl⟩
  ·rintro g _ y ⟨i,e,v,rfl⟩;dsimp only;rw[bn (az (U:(g:Int)<(n:Int))),bA U];refine ae.aW (Tb h D q y (Bk i) v) ?_;rintro⟨J,K,_⟩ ⟨x,w⟩;dsimp only at x w|-;subst x;rw[dT,bu];refine ae.ite (λj=>?_) (λj=>?_)
   ·obtain⟨A,G,rfl⟩:=w j;refine ae.af.2 ⟨λa f=>?_,A,G,rfl⟩;rcases bb a g with l|l
    ·exact i a l
    ·obtain rfl:a=g:=U;exact j
   ·rw[dT,bu];have t:=JW (o:=c) i y j;refine ae.ite (λk=>?_) (λk=>?_)
    ·refine ae.af.2 (.inl ?_);rw[t,if_pos k,k];rfl
    ·refine ae.af.2 (.inl ?_);rw[t,if_neg k];rfl
  ·rintro _ ⟨i,e,v,rfl⟩;dsimp only;rw[bm (ay (U:¬((n:Int)<(n:Int))))];refine ae.af.2 (.inr ⟨⟨e,?_⟩,EG i⟩);have:(aq n λa=>if a<n then fN (ba E c) b a else[])=aq n (fN (ba E c) b):=bR λa f=>if_pos f;rw[this]
 ·rintro s (rfl|⟨⟨e,rfl⟩,l⟩)
  ·exact ae.af.2 rfl
  ·dsimp only;refine ae.bs (IW h q U e _) ?_;rw[l];exact ae.af.2 rfl
theorem Rv (e:hq b a n c u) (f:m.length<=1000000) (d:mU b a n c u m≠0):pn (((b:Int),(a:Int),n,c,u,()),m,())=some (kp,0,mU b a n c u m,()):=by unfold pn;refine au (GY e f d) ?_;dsimp only;rw[dr,ay d];rfl
def yS (b:Nat->Nat->abV) (c:c7) (a:Nat):Prop:=oC (h4 b (bq b (a1 c)) a a)<=0\/uY (bq b (a1 c) a a)=0
theorem IN (b:¬yS d g a) (e:∀h∈bk g a,bK (bq d (a1 g) a h.toNat)≠2047):dN d g a=0:=by unfold yS at b;unfold dN;rw[if_neg b,if_pos];intro f c;exact e (f:Int) (by unfold a1 at c;exact of_decide_eq_true c)
theorem x1 {m:Int} {a k:Nat} (b:m.natAbs=2*a+1):bj (m*2^k)=m/\gz (m*2^k)=(k:Int)-65536:=by have c:(m*2^k).natAbs=(2*a+1)*2^k:=(by rw[lm,b]);have d:=vE c;unfold bj gz;rw[d];exact⟨Int.mul_ediv_cancel _ (by have:(0:Int)<2^k:=m3 aa;omega),rfl⟩
theorem FI (b:e≠0) (a:Nat):e*2^a≠0:=Int.mul_ne_zero b (by have:(0:Int)<2^a:=m3 aa;omega)
theorem EW {m:Int} {a:Nat} (d:m.natAbs=2*a+1) {t:Nat} (n:e+t+65536=(b:Int)) (k:-65536<=e) (l:e+t+aC m.natAbs<=65536):e8 (m*2^t) e=some (m*2^b):=by have j:m≠0:=U;have f:(m*2^t).natAbs=(2*a+1)*2^t:=(by rw[lm,d]);have g:=vE f;have h:aC (m*2^t).natAbs=aC m.natAbs+t:=(by rw[lm,my U]);unfold e8;rw[if_neg (FI j t),g,h,if_neg U];obtain⟨c,i⟩:=eY (U:0<=e+65536);rw[i];show some (nE (m*2^t) (c:Int))=_;rw[nF,kx,<-kh,(U:t+c=b)]
theorem DY {m:Int} {a t k:Nat} (c:e=m*2^t) (b:m.natAbs=2*a+1) (f:(t:Int)+65536=(k:Int)) (d:t+aC m.natAbs<=65536):oh e=some (m*2^k):=by unfold oh;rw[c];exact EW b U aa U
theorem D2 {a:Nat} (d:e.natAbs=2*a+1) (f:0<e) (c:Int):oy (some (e*2^b)) c=jg false e.natAbs ((b:Int)-65536) false c:=by obtain⟨g,h⟩:=x1 (k:=b) d;show yg (e*2^b) c=_;unfold yg;rw[if_neg (FI U b),g,h,ay];have:(0:Int)<e*2^b:=oS f (m3 aa);omega
theorem Uh {a:Nat} (c:e.natAbs=2*a+1) (d:0<e):lu (some (e*2^b)) 0=yh (ls e.natAbs ((b:Int)-65536)) e.natAbs ((b:Int)-65536) 0:=by obtain⟨f,g⟩:=x1 (k:=b) c;have:(0:Int)<e*2^b:=oS d (m3 aa);show(if e*2^b<0 then(9221120237041090560:Int) else if e*2^b=0 then 0 else pT (e*2^b) 0)=_;rw[if_neg U,if_neg U];unfold pT;rw[f,g]
theorem Ug {a b:Nat} (f:e.natAbs=2*a+1) (g:0<e) (c:q.natAbs=2*b+1) (d:0<q):ow (some (e*2^h)) (some (q*2^v)) 0=B9 (pR e.natAbs q.natAbs) e.natAbs q.natAbs false ((h:Int)-65536-((v:Int)-65536)) 0:=by obtain⟨i,j⟩:=x1 (k:=h) f;obtain⟨l,m⟩:=x1 (k:=v) c;have n:(0:Int)<e*2^h:=oS g (m3 aa);have o:(0:Int)<q*2^v:=oS d (m3 aa);show(if q*2^v=0 then(9221120237041090560:Int) else if e*2^h=0 then 0 else tj (e*2^h) (q*2^v) 0)=_;rw[if_neg U,if_neg U];unfold tj;rw[i,j,l,m,ay U,ay U];rfl
theorem A4 {a t:Nat} (c:q.natAbs=2*a+1) (g:(if e<9223372036854775808 then if bK e=0 then fj e else fj e+4503599627370496 else-(if bK e=0 then fj e else fj e+4503599627370496))=q*2^t) (f:bK e≠2047) (h:(if bK e=0 then-1074 else bK e-1075)+(t:Int)+65536=(b:Int)) (d:(if bK e=0 then-1074 else bK e-1075)+(t:Int)+aC q.natAbs<=65536):ea e=some (q*2^b):=by unfold ea;rw[if_neg f,g];refine EW c h ?_ d;have:=xu e;split<;>omega
theorem f4:oy (oh 4) 0=4616189618054758400:=by rw[DY (m:=1) (a:=0) (t:=2) (k:=65538) aa aa aa aa,D2 (a:=0) aa aa];decide
theorem f2:oy (oh 2) 0=4611686018427387904:=by rw[DY (m:=1) (a:=0) (t:=1) (k:=65537) aa aa aa aa,D2 (a:=0) aa aa];decide
theorem f5:oy (oh 5) 0=4617315517961601024:=by rw[DY (m:=5) (a:=2) (t:=0) (k:=65536) aa aa aa aa,D2 (a:=2) aa aa];decide
theorem v4:ea 4616189618054758400=some (1*2^65538):=A4 (a:=0) (t:=52) aa aa aa aa aa
theorem fa:ea 4611686018427387904=some (1*2^65537):=A4 (a:=0) (t:=52) aa aa aa aa aa
theorem CF:ea 4617315517961601024=some (5*2^65536):=A4 (a:=2) (t:=50) aa aa aa aa aa
theorem v1:ea 4607182418800017408=some (1*2^65536):=A4 (a:=0) (t:=52) aa aa aa aa aa
theorem aU:lu (some (1*2^65538)) 0=4611686018427387904:=by rw[Uh (a:=0) aa aa];decide+kernel
theorem ar:ow (some (1*2^65537)) (some (1*2^65537)) 0=4607182418800017408:=by rw[Ug (a:=0) (b:=0) aa aa aa aa];decide
def xp:ab1:=[0,1,1]
def xq:ab1:=[0,2,3]
def sK:ab1:=[4616189618054758400,4611686018427387904,4617315517961601024]
theorem Uj:hq 2 2 xq xp sK where
 hr:=by decide
 hc:=by decide
 hi:=by decide
 hs:=by decide
 hv:=by decide
 hw:=λb a=>by unfold sK at a;simp only[dh,List.not_mem_nil,or_false] at a;rcases a with rfl|rfl|rfl<;>exact⟨aa,aa⟩
theorem Uk:et 2 2 xq xp sK where
 len:=rfl
 first:=rfl
 mono:=λb e=>by have:b=0\/b=1:=U;rcases this with rfl|rfl<;>decide
 last:=rfl
 val:=rfl
 rng:=λb a e c d=>by
  have:b=0\/b=1:=U;rcases this with rfl|rfl
  ·change(0:Int)<=a at c;change(a:Int)<2 at d;have:a=0\/a=1:=U;rcases this with rfl|rfl<;>exact⟨aa,aa⟩
  ·change(2:Int)<=a at c;change(a:Int)<3 at d;have:a=2:=U;subst this;exact⟨aa,aa⟩
 asc:=λb a e c d=>by
  have:b=0\/b=1:=U;rcases this with rfl|rfl
  ·change(0:Int)<a at c;change(a:Int)<2 at d;have:a=1:=U;subst this;decide
  ·change(2:Int)<a at c;change(a:Int)<3 at d;omega
theorem T6:gq 2 2 xq xp sK=0:=by refine jU.2 ⟨Uk,λa b=>?_⟩;have:a=0\/a=1\/a=2:=(by have:sK.length=3:=rfl;omega);rcases this with rfl|rfl|rfl<;>decide
theorem Ue:eZ [0,1] 2:=⟨rfl,λb a=>by
 simp only[dh,List.not_mem_nil,or_false] at a;rcases a with rfl|rfl<;>exact⟨aa,aa⟩,aa⟩
def pA:List bF:=[(0,0,4616189618054758400,()),(1,0,4611686018427387904,()),(1,1,4617315517961601024,())]
theorem T9:bQ xq xp sK 2=pA:=rfl
def fK:c7:=[[1],[0]]
theorem Ua:ig 2 (eg pA) [0,1]=fK:=by decide
theorem A3:bk fK 0=[0,1]:=by have a:jk fK 0 0:=.inl rfl;have b:jk fK 0 1:=.inr ⟨aa,.one ⟨aa,aa⟩⟩;unfold bk jc;show((List.filter _ [0,1]).map _)=_;simp[iD,a,b]
theorem DX:bk fK 1=[1]:=by have a:jk fK 1 1:=.inl rfl;unfold bk jc;show((List.filter _ [0,1]).map _)=_;simp[iD,a]
theorem T1:ba pA [0,1] 0 0=some (1*2^65538):=v4
theorem T2:ba pA [0,1] 1 0=some (1*2^65537):=fa
theorem T3:ba pA [0,1] 1 1=some (5*2^65536):=CF
theorem MN {a:abV} (c:e1 a):gC [a]=a:=by
 cases a with
 |none=>rfl
 |some b=>
  have d:=c b rfl;show(if(true&&true)=true then ld (b+0) else none)=_;rw[if_pos (show(true&&true)=true from rfl),Int.add_zero];unfold ld;rw[if_pos d]
theorem Ud (f:(b:Int)-65536=0):lj (some (1*2^b)) (some (1*2^b))=some (1*2^b):=by obtain⟨c,d⟩:=x1 (m:=1) (a:=0) (k:=b) aa;have e:bJ (1*2^b)=0:=(by unfold bJ;rw[if_neg (FI aa _),d,f]);show e8 (bj (1*2^b)*bj (1*2^b)) (bJ (1*2^b)+bJ (1*2^b))=_;rw[c,e];exact EW (m:=1) (a:=0) (t:=0) aa U aa aa
theorem Uc:lj (some (1*2^65536)) (some (1*2^65536))=some (1*2^65536):=Ud aa
theorem T4 (a:Nat):(5:Int)*2^a+(-(1*2^a)+0)=1*2^(a+2):=by rw[Int.pow_succ,Int.pow_succ];generalize(2:Int)^a=b;omega
theorem T5 (c:a+2=b) (d:e1 (some (1*2^b))):gC [some ((5:Int)*2^a),vh (some (1*2^a))]=some (1*2^b):=by show(if(true&&(true&&true))=true then ld (5*2^a+(-(1*2^a)+0)) else none)=_;rw[if_pos (show(true&&(true&&true))=true from rfl),T4,c];unfold ld;rw[if_pos (d _ rfl)]
abbrev hI:Nat->Nat->abV:=ba pA [0,1]
theorem D3:h4 hI (bq hI (a1 fK)) 0 0=some (1*2^65538):=by show gC [ba pA [0,1] 0 0]=_;rw[T1,<-v4];exact MN (mN _)
theorem Ui:h4 hI (bq hI (a1 fK)) 0 1=some (1*2^65537):=by show gC [ba pA [0,1] 1 0]=_;rw[T2,<-fa];exact MN (mN _)
theorem DZ:bq hI (a1 fK) 0 0=4611686018427387904:=by rw[oo];unfold lf;rw[if_pos rfl,D3,aU]
theorem Uf:a1 fK 0 1=true:=by unfold a1;rw[A3];decide
theorem D0:bq hI (a1 fK) 0 1=4607182418800017408:=by rw[oo];unfold lf;rw[if_neg aa,if_pos Uf,Ui,D3,aU,fa,ar]
theorem IR:h4 hI (bq hI (a1 fK)) 1 1=some (1*2^65538):=by show gC [ba pA [0,1] 1 1,vh (lj (ea (bq hI (a1 fK) 0 1)) (ea (bq hI (a1 fK) 0 1)))]=_;rw[T3,D0,v1,Uc];exact T5 rfl (by rw[<-v4];exact mN _)
theorem D1:bq hI (a1 fK) 1 1=4611686018427387904:=by rw[oo];unfold lf;rw[if_pos rfl,IR,aU]
theorem MA (a:0<e):eQ e=1:=by unfold eQ;rw[if_neg U,if_neg U]
theorem LN (a:Nat):(0:Int)<1*2^a:=oS aa (m3 aa)
theorem T7:dN hI fK 0=0:=by
 refine IN ?_ ?_
 ·unfold yS;rw[D3,DZ];rintro(b|b)
  ·have:oC (some (1*2^65538))=1:=MA (LN _);omega
  ·revert b;decide
 ·intro c a;rw[A3] at a;simp only[dh,List.not_mem_nil,or_false] at a;rcases a with rfl|rfl
  ·show bK (bq hI (a1 fK) 0 0)≠2047;rw[DZ];decide
  ·show bK (bq hI (a1 fK) 0 1)≠2047;rw[D0];decide
theorem T8:dN hI fK 1=0:=by
 refine IN ?_ ?_
 ·unfold yS;rw[IR,D1];rintro(b|b)
  ·have:oC (some (1*2^65538))=1:=MA (LN _);omega
  ·revert b;decide
 ·intro c a;rw[DX] at a;simp only[dh,List.not_mem_nil,or_false] at a;subst a;show bK (bq hI (a1 fK) 1 1)≠2047;rw[D1];decide
theorem Ub:pn ((2,(2,(xq,(xp,(sK,()))))),[0,1],())=some (([0,1],([0,2,3],([0,1,1],([4611686018427387904,4607182418800017408,4611686018427387904],())))),2,0,()):=by
 have a:=GU (n:=2) aa Uj T6 Ue;rw[T9,Ua,EG (λb g=>by
  have:b=0\/b=1:=U;rcases this with rfl|rfl
  ·exact T7
  ·exact T8)] at a
 refine a.trans ?_;have c:fN hI fK 0=[4611686018427387904,4607182418800017408]:=(by unfold fN;rw[A3,er,er,List.map_nil];show[bq hI (a1 fK) 0 0,bq hI (a1 fK) 0 1]=_;rw[DZ,D0]);have aj:fN hI fK 1=[4611686018427387904]:=(by unfold fN;rw[DX,er,List.map_nil];show[bq hI (a1 fK) 1 1]=_;rw[D1]);have d:kL fK 0=[]:=rfl;have i1:kL fK 1=[0,1]:=(by show[]++bk fK 0=_;rw[A3];rfl);have e:kL fK 2=[0,1,1]:=(by show kL fK 1++bk fK 1=_;rw[i1,DX];rfl);have f:tB hI fK 2=[4611686018427387904,4607182418800017408,4611686018427387904]:=(by show([]++fN hI fK 0)++fN hI fK 1=_;rw[c,aj];rfl);unfold sL;rw[n9,n9,n9,IV,d,i1,e,f];rfl
theorem GJ (a b:ab1) (c:a.length<4611686018427387904):Ap (a,b,())=some (a==b,()):=vV a b c
theorem Se:Ar ()=some (true,()):=by unfold Ar;refine au (Ch aa aa) (au (Ch aa aa) (au (Ch aa aa) ?_));dsimp only;rw[f4,f2,f5];refine au Ub ?_;dsimp only;rw[bn aa,bn aa];refine au (vV _ _ aa) ?_;dsimp only;rw[bn aa];refine au (GJ _ _ aa) ?_;rfl
def kC (g f e:Nat) (h a d:ab1):Prop:=∃c,c<=a.length/\et g f h (a.take c) (d.take c)/\d.length=a.length/\(∀b,c<=b->b<a.length->0<=a.getD b 0/\a.getD b 0<(e:Int))/\(∀b,c<b->b<a.length->a.getD (b-1) 0<a.getD b 0)
theorem et.open (d:et b a m c n):kC b a 0 m c n:=
 ⟨c.length,aY _,by rw[dK (aY _),dK (Nat.le_of_eq d.val)];exact d,d.val,λg f e=>absurd e U,λg f e=>absurd e U⟩
theorem kC.skip (f:kC h b a m c n):kC h b (a+1) m c n:=by obtain⟨o,g,i,j,k,l⟩:=f;exact⟨o,g,i,j,λp d e=>by have:=k p d e;omega,l⟩
theorem xB (b:a<c.length):(c++[e]).getD a 0=c.getD a 0:=by rw[iF,nO b,<-iF]
theorem Ei:(c++[e]).getD c.length 0=e:=by rw[iF,o0 (aY _)];simp
theorem kC.add (j:kC h b a m c n) (q:Int):kC h b (a+1) m (c++[(a:Int)]) (n++[q]):=by
 obtain⟨p,k,l,r,i,o⟩:=j;refine⟨p,by simp;omega,?_,by simp;omega,λe f g=>?_,λe f g=>?_⟩
 ·rw[rX k,rX U];exact l
 ·rw[nP,yM] at g;rcases bb e c.length with d|d
  ·rw[xB d];have:=i e f d;omega
  ·obtain rfl:e=c.length:=U;rw[Ei];omega
 ·rw[nP,yM] at g;rcases bb e c.length with d|d
  ·rw[xB d,xB U];exact o e f d
  ·obtain rfl:e=c.length:=U;rw[Ei,xB U];exact(i (c.length-1) U U).2
theorem Ej (d:a<b):(c.take b).getD a 0=c.getD a 0:=by rw[iF,k3 d,<-iF]
theorem kC.close (s:kC b a b m c n):et b (a+1) (m++[(c.length:Int)]) c n:=by
 obtain⟨x,o,i,t,u,v⟩:=s;have p:=i.len;have q:=i.last;rw[eC,gm o] at q;have l:(m++[(c.length:Int)]).getD (a+1) 0=(c.length:Int):=(by rw[<-p];exact Ei);have e:∀d,d<=a->(m++[(c.length:Int)]).getD d 0=m.getD d 0:=λd j=>xB U;have r:∀d,d<=a->m.getD d 0<=(x:Int):=λd j=>(by have:=i.om d j;rw[eC,gm o] at this;exact this);refine⟨by simp[p],by rw[e 0 U];exact i.first,λd j=>?_,l,t,λd k j g h=>?_,λd k j g h=>?_⟩
 ·rcases bb d a with f|f
  ·rw[e d U,e (d+1) U];exact i.mono d f
  ·obtain rfl:d=a:=U;rw[e d U,l,q];omega
 ·rcases bb d a with f|f
  ·rw[e d U] at g;rw[e (d+1) U] at h;have w:=r (d+1) U;have:=i.rng d k f g h;rw[Ej U] at this;exact this
  ·obtain rfl:d=a:=U;rw[e d U] at g;rw[l] at h;exact u k U U
 ·rcases bb d a with f|f
  ·rw[e d U] at g;rw[e (d+1) U] at h;have w:=r (d+1) U;have:=i.asc d k f g h;rw[Ej U,Ej U] at this;exact this
  ·obtain rfl:d=a:=U;rw[e d U] at g;rw[l] at h;exact v k U U
theorem et.empty (d:Nat):et d 0 [0] [] []:=⟨rfl,rfl,λb a=>absurd a U,rfl,rfl,λb c a=>absurd a U,λb c a=>absurd a U⟩
structure p9 (rows fR:Nat) (m:bP):Prop where
 ex:∃st mI rE,m=((rows:Int),(fR:Int),st,mI,rE,())/\et rows fR st mI rE/\(∀v∈rE,dX v)/\mI.length<=fR*rows
theorem p9.small (g:b<=5) (f:a<=5) (d:et b a n c m) (e:∀h∈m,dX h) (i:c.length<=a*b):hq b a n c m:=by have j:a*b<=5*5:=jN f g;exact⟨U,U,U,by rw[d.len];omega,by rw[d.val];omega,e⟩
theorem GN (x:c.length<=9223372036854775807) {rows fR:Nat} (y:rows<=5) (v:fR<=5) (s:Int):ae (w1 (c,(rows:Int),(fR:Int),s,())) λi=>p9 rows fR i.1:=by
 have G:fR*rows<=5*5:=Nat.mul_le_mul v y;unfold w1;dsimp only;refine ae.aW (P:=λi=>p9 rows fR i.2.1) ?_ (by rintro⟨A,B,_⟩ m;exact ae.af.2 m);refine ae.steps fR (λd n=>∃e a b,n=((d:Int),((0:Int),((0:Int),([],([],([],()))))),((rows:Int),(fR:Int),e,a,b,()),())/\et rows d e a b/\(∀f∈b,dX f)/\a.length<=d*rows) ?_ ?_ ?_
 ·exact⟨[0],[],[],rfl,et.empty rows,ac,ac⟩
 ·rintro d _ w ⟨e,a,b,rfl,p,u,D⟩;have F:d*rows+rows<=5*5:=by
   have:(d+1)*rows<=fR*rows:=ga _ w;rw[eD,g0] at this;omega
  dsimp only;rw[bn (az (U:(d:Int)<(fR:Int))),bA U];refine ae.aW (P:=λi=>∃a b,i=(((0:Int),((0:Int),([],([],([],()))))),((rows:Int),(fR:Int),e,a,b,()),())/\kC rows d rows e a b/\(∀f∈b,dX f)/\a.length<=d*rows+rows) ?_ ?_
  ·refine ae.steps rows (λg n=>∃a b,n=((g:Int),((0:Int),((0:Int),([],([],([],()))))),((rows:Int),(fR:Int),e,a,b,()),())/\kC rows d g e a b/\(∀f∈b,dX f)/\a.length<=d*rows+g) ?_ ?_ ?_
   ·exact⟨a,b,rfl,p.open,u,U⟩
   ·rintro g _ E ⟨a,b,rfl,l,o,C⟩;have H:b.length=a.length:=by
     obtain⟨I,_,_,m,_⟩:=l;exact m
    dsimp only;rw[bn (az (U:(g:Int)<(rows:Int))),bA U];refine ae.aW (P:=λi=>∃a b,i=(((0:Int),((0:Int),([],([],([],()))))),((rows:Int),(fR:Int),e,a,b,()),())/\kC rows d (g+1) e a b/\(∀f∈b,dX f)/\a.length<=d*rows+(g+1)) ?_ ?_
    ·refine ae.aW (Gz c x _) ?_;rintro⟨J,_⟩ r;dsimp only at r|-;rw[ry aa aa,Option.bind_some];unfold gV;rw[if_pos aa,Option.bind_some,bu];refine ae.ite (λt=>?_) (λt=>?_)
     ·rw[dZ (by simp;omega),Option.bind_some];refine ae.aW (WD r s) ?_;rintro⟨f,_⟩ q;dsimp only at q|-;rw[dZ (by simp;omega),Option.bind_some];refine ae.af.2 ⟨_,_,rfl,l.add f,λz k=>?_,by simp;omega⟩;rcases List.mem_append.1 k with k|k
      ·exact o z k
      ·obtain rfl:=eS.1 k;exact q
     ·exact ae.af.2 ⟨_,_,rfl,l.skip,o,U⟩
    ·rintro _ ⟨a,b,rfl,ar,h,j⟩;exact ae.af.2 ⟨a,b,rfl,ar,h,j⟩
   ·rintro _ ⟨a,b,rfl,ar,h,j⟩;dsimp only;rw[bm (ay (U:¬((rows:Int)<(rows:Int))))];exact ae.af.2 ⟨a,b,rfl,ar,h,j⟩
  ·rintro _ ⟨a,b,rfl,ar,h,j⟩;dsimp only;rw[dZ (by rw[p.len];simp;omega),Option.bind_some];refine ae.af.2 ⟨_,_,_,rfl,ar.close,h,by rw[Nat.add_mul,Nat.one_mul];omega⟩
 ·rintro _ ⟨e,a,b,rfl,ar,h,j⟩;dsimp only;rw[bm (ay (U:¬((fR:Int)<(fR:Int))))];exact ae.af.2 ⟨e,a,b,rfl,ar,h,j⟩
theorem NA (e:hq b a m c n) (f:Int) (i:h<a):∃g,dX g/\sz (((b:Int),(a:Int),m,c,n,()),f,(h:Int),())=some (g,()):=by
 by_cases d:gq b a m c n=0
 ·exact⟨_,abl (sJ (jU.1 d).1 e.hw) _ _,Zt e d f i⟩
 ·refine⟨0,⟨aa,aa⟩,?_⟩;unfold sz;refine au (y:=.inr (0,())) ?_ rfl;refine au e.vt ?_;dsimp only;rw[dr,ay d];rfl
theorem RJ (l:hq h b m c n) (f:et h b m c n) (d:v<h) (p:a<b):∃g,xc (((h:Int),(b:Int),m,c,n,()),(v:Int),(a:Int),())=some (g,()):=by
 have r:=f.pos a U;have s:=f.pos (a+1) U;have B:=f.om (a+1) U;have z:=f.mono a p;have x:=f.len;have w:=l.hi;have u:=l.hc;suffices i:ae (xc (((h:Int),(b:Int),m,c,n,()),(v:Int),(a:Int),())) λo=>True by obtain⟨⟨g,_⟩,i,_⟩:=i;exact⟨g,i⟩
 unfold xc;dsimp only;rw[ay (U:¬((v:Int)<0)),ay (U:¬((v:Int)>=(h:Int))),ay (U:¬((a:Int)<0)),ay (U:¬((a:Int)>=(b:Int)))];refine ae.bs (y:=.inl ()) rfl ?_;dsimp only;obtain⟨e,q⟩:=Int.eq_ofNat_of_zero_le r;obtain⟨d,k⟩:=Int.eq_ofNat_of_zero_le s;refine ae.bs (y:=(e:Int)) (by rw[fL U,q]) ?_;refine ae.aW (P:=λo=>True) ?_ ?_
 ·refine ae.steps (d-e) (λj t=>t=(((e+j:Nat):Int),())) rfl ?_ ?_
  ·rintro j _ A rfl;dsimp only;refine ae.bs (y:=(d:Int)) (by rw[bA U,fL U,k]) ?_;rw[bn (az (U:((e+j:Nat):Int)<(d:Int)))];refine ae.bs (fL U) ?_;rw[dT,bu];refine ae.ite (λ_=>ae.af.2 trivial) (λ_=>?_);rw[bA U];exact ae.af.2 rfl
  ·rintro _ rfl;dsimp only;refine ae.bs (y:=(d:Int)) (by rw[bA U,fL U,k]) ?_;rw[bm (ay (U:¬(((e+(d-e):Nat):Int)<(d:Int))))];exact ae.af.2 trivial
 ·rintro(_|o) _
  ·exact ae.af.2 trivial
  ·exact ae.af.2 trivial
theorem NF (Z:c.length<=9223372036854775807) {n:Nat} (s:n<=5) (K:Int):ae (Al (c,(n:Int),K,())) λj=>p9 n n j.1:=by
 have a0:n*n<=5*5:=Nat.mul_le_mul s s;unfold Al;refine ae.bs (xW K (n:=3) aa aa) ?_;refine ae.aW (GN Z s s _) ?_;rintro⟨m,_⟩ G;dsimp only at G|-;obtain⟨O,N,Q,rfl,H,X,Y⟩:=G.ex;have I:=p9.small s s H X Y;have F:=λ(f:Int) (e:Nat) (q:e<n)=>NA I f q;have S:=λ(f e:Nat) (z:f<n) (q:e<n)=>RJ I H z q;generalize(((n:Int),(n:Int),O,N,Q,()):bP)=m at*;refine ae.aW (P:=λj=>p9 n n j.2.1) ?_ (by rintro⟨ad,C,_⟩ y;exact ae.af.2 y);refine ae.steps n (λe v=>∃g b a,v=((e:Int),((0:Int),((0:Int),([],([],([],()))))),m,((n:Int),(n:Int),g,b,a,()),())/\et n e g b a/\(∀h∈a,dX h)/\b.length<=e*n) ?_ ?_ ?_
 ·exact⟨[0],[],[],rfl,et.empty n,ac,ac⟩
 ·rintro e _ q ⟨g,b,a,rfl,E,R,an⟩;have ap:e*n+n<=5*5:=by
   have:(e+1)*n<=n*n:=ga _ q;rw[eD,g0] at this;omega
  dsimp only;rw[bn (az (U:(e:Int)<(n:Int))),bA U];refine ae.aW (P:=λj=>∃b a,j=(((0:Int),((0:Int),([],([],([],()))))),m,((n:Int),(n:Int),g,b,a,()),())/\kC n e n g b a/\(∀h∈a,dX h)/\b.length<=e*n+n) ?_ ?_
  ·refine ae.steps n (λf v=>∃b a,v=((f:Int),((0:Int),((0:Int),([],([],([],()))))),m,((n:Int),(n:Int),g,b,a,()),())/\kC n e f g b a/\(∀h∈a,dX h)/\b.length<=e*n+f) ?_ ?_ ?_
   ·exact⟨b,a,rfl,E.open,R,U⟩
   ·rintro f _ z ⟨b,a,rfl,x,D,am⟩;have a3:a.length=b.length:=by
     obtain⟨i,_,_,y,_⟩:=x;exact y
    dsimp only;rw[bn (az (U:(f:Int)<(n:Int))),bA U];refine ae.aW (P:=λj=>∃b a,j=(((0:Int),((0:Int),([],([],([],()))))),m,((n:Int),(n:Int),g,b,a,()),())/\kC n e (f+1) g b a/\(∀h∈a,dX h)/\b.length<=e*n+(f+1)) ?_ ?_
    ·have J:∀(B:Int),dX B->∀h∈a++[B],dX h:=λB ab h k=>by
      rcases eH.1 k with k|k
      ·exact D h k
      ·obtain rfl:=eS.1 k;exact ab
     rw[dT,bu];refine ae.ite (λL=>?_) (λL=>?_)
     ·refine ae.bs (LU aa aa) ?_;dsimp only;refine ae.aW (P:=λj=>∃d:c4,j=(((0:Int),((0:Int),([],([],([],()))))),m,((n:Int),(n:Int),g,b,a,()),d.map bf,())/\(∀l∈d,e1 l)/\d.length<=n+1) ?_ ?_
      ·refine ae.steps n (λi v=>∃d:c4,v=((i:Int),((0:Int),((0:Int),([],([],([],()))))),m,((n:Int),(n:Int),g,b,a,()),d.map bf,())/\(∀l∈d,e1 l)/\d.length<=i+1) ?_ ?_ ?_
       ·exact⟨[oh 1],rfl,by intro l p;obtain rfl:=eS.1 p;exact JB 1,ac⟩
       ·rintro i _ av ⟨d,rfl,o,u⟩;dsimp only;rw[bn (az (U:(i:Int)<(n:Int))),bA U];refine ae.aW (P:=λj=>∃d:c4,j=(((0:Int),((0:Int),([],([],([],()))))),m,((n:Int),(n:Int),g,b,a,()),d.map bf,())/\(∀l∈d,e1 l)/\d.length<=(i+1)+1) ?_ ?_
        ·rw[dr,<-decide_not,bu];refine ae.ite (λM=>?_) (λM=>?_)
         ·obtain⟨w,V,W⟩:∃w:Nat,(if(i:Int)<(f:Int) then(i:Int) else(f:Int))=(w:Int)/\w<n:=by
           split
           ·exact⟨i,rfl,U⟩
           ·exact⟨f,rfl,U⟩
          rw[V];obtain⟨h,k,A⟩:=F (if(i:Int)>(f:Int) then(i:Int) else(f:Int)) w W;refine ae.bs A (ae.bs (ZQ k) (ae.bs (ZE (mN _)) ?_));rw[dZ (by simp;omega)];refine ae.af.2 ⟨d++[CX (ea h)],ac,λl p=>?_,by simp;omega⟩;rcases eH.1 p with p|p
          ·exact o l p
          ·obtain rfl:=eS.1 p;exact RO (mN _)
         ·exact ae.af.2 ⟨d,rfl,o,U⟩
        ·rintro _ ⟨d,rfl,o,u⟩;exact ae.af.2 ⟨d,rfl,o,u⟩
       ·rintro _ ⟨d,rfl,o,u⟩;dsimp only;rw[bm (ay (U:¬((n:Int)<(n:Int))))];exact ae.af.2 ⟨d,rfl,o,u⟩
      ·rintro _ ⟨d,rfl,o,u⟩;dsimp only;rw[dZ (by simp;omega),Option.bind_some];refine ae.bs (ZF o U) ?_;refine ae.bs (Mc (MM _)) ?_;dsimp only;rw[dZ (by simp;omega),Option.bind_some];exact ae.af.2 ⟨_,_,rfl,x.add _,J _ (L6 _ _),by simp;omega⟩
     ·obtain⟨C,T⟩:=S f e z q;refine ae.bs T ?_;dsimp only;cases C with
      |true=>
       rw[cond_true,dZ (by simp;omega),Option.bind_some];obtain⟨h,k,A⟩:=F (f:Int) e q;refine ae.bs A ?_;dsimp only;rw[dZ (by simp;omega),Option.bind_some];exact ae.af.2 ⟨_,_,rfl,x.add _,J _ k,by simp;omega⟩
      |false=>
       rw[cond_false];exact ae.af.2 ⟨_,_,rfl,x.skip,D,U⟩
    ·rintro _ ⟨b,a,rfl,ar,r,t⟩;exact ae.af.2 ⟨b,a,rfl,ar,r,t⟩
   ·rintro _ ⟨b,a,rfl,ar,r,t⟩;dsimp only;rw[bm (ay (U:¬((n:Int)<(n:Int))))];exact ae.af.2 ⟨b,a,rfl,ar,r,t⟩
  ·rintro _ ⟨b,a,rfl,ar,r,t⟩;dsimp only;rw[dZ (by rw[E.len];simp;omega),Option.bind_some];refine ae.af.2 ⟨_,_,_,rfl,ar.close,r,by rw[Nat.add_mul,Nat.one_mul];omega⟩
 ·rintro _ ⟨g,b,a,rfl,ar,r,t⟩;dsimp only;rw[bm (ay (U:¬((n:Int)<(n:Int))))];exact ae.af.2 ⟨g,b,a,rfl,ar,r,t⟩
theorem G2 (j:c.length<=9223372036854775807) {n:Nat} (q:n<=5):ae (w2 (c,(n:Int),())) λb=>b.1.length=n:=by
 unfold w2;dsimp only;refine ae.aW (P:=λb=>b.1.length=n) ?_ (by rintro⟨o,_⟩ i;exact ae.af.2 i);refine ae.steps n (λd m=>∃a,m=(a,(d:Int),())/\a.length=d) ⟨[],rfl,rfl⟩ ?_ ?_
 ·rintro d _ p ⟨a,rfl,e⟩;dsimp only;rw[bn (az (U:(d:Int)<(n:Int))),bA U];refine ae.aW (Gz c j _) ?_;rintro⟨h,_⟩ l;dsimp only at l|-;rw[ry aa aa,Option.bind_some];refine ae.bs (xW _ (n:=d+1) U U) ?_;have r:=BI (aw (h/2^(1:Int).toNat)) (n:=d+1) U;dsimp only;generalize re (aw (h/2^(1:Int).toNat)) (d+1)=b at*;refine ae.bs (Cr U) ?_;dsimp only;rw[dZ (by simp;omega),Option.bind_some,dZ (by simp;omega),Option.bind_some];have k:((fU (b:Int)).bind λf=>(some a.length).bind λg=>(gj f g a.length).map λ_=>(f,g))=some (b,a.length):=by
   have:fU (b:Int)=some b:=(by unfold fU;rw[if_pos U,dc]);rw[this];show(gj b a.length a.length).map _=_;unfold gj;rw[if_pos ⟨U,aY _⟩];rfl
  refine ae.bs k ?_;dsimp only;rw[dZ (by simp;omega),Option.bind_some];exact ae.af.2 ⟨_,rfl,by simp;omega⟩
 ·rintro _ ⟨a,rfl,e⟩;dsimp only;rw[bm (ay (U:¬((n:Int)<(n:Int))))];exact ae.af.2 e
theorem Zc (d:c.length<=9223372036854775807) (b g:Int) (h:Bool):ae (As (c,b,g,h,())) λi=>∃a,a<=5/\p9 a a i.1/\i.2.1.length=a:=by
 unfold As;refine ae.bs (xW b (n:=6) aa aa) ?_;have l:=BI b (n:=6) aa;dsimp only;generalize re b 6=a at*;cases h with
 |true=>
  rw[cond_true];refine ae.aW (NF d (n:=a) U g) ?_;rintro⟨j,_⟩ e;refine ae.aW (G2 d (n:=a) U) ?_;rintro⟨k,_⟩ f;exact ae.af.2 ⟨a,U,e,f⟩
 |false=>
  rw[cond_false];refine ae.aW (GN d (rows:=a) (fR:=a) U U g) ?_;rintro⟨j,_⟩ e;refine ae.aW (G2 d (n:=a) U) ?_;rintro⟨k,_⟩ f;exact ae.af.2 ⟨a,U,e,f⟩
def yU (a:it):Prop:=a.1.length<1000000/\a.2.1.length<1000000/\a.2.2.1.length<1000000/\a.2.2.2.1.length<1000000
theorem aaf {a:it} (b:yU a):An (a,a,())=some (true,()):=by obtain⟨c,d,e,f⟩:=b;unfold An;refine au (vV _ _ U) ?_;dsimp only;rw[bn ac];refine au (vV _ _ U) ?_;dsimp only;rw[bn ac];refine au (vV _ _ U) ?_;dsimp only;rw[bn ac];refine au (GJ _ _ U) ?_;dsimp only;simp
theorem E9:yU kp:=⟨aa,aa,aa,aa⟩
theorem Vv (b:a<=5) (j:g.length=a) (k:c.length<=5):yU (l0 d g c a).1:=by
 unfold l0;split
 ·split
  ·exact E9
  ·exact E9
 ·have f:=En g a;have h:=Gx d g a;have i:a*g.length<=5*5:=jN b U;refine⟨?_,?_,?_,?_⟩
  ·show c.length<1000000;omega
  ·show(aq (a+1) (λe=>((kL g e).length:Int))).length<1000000;rw[bi];omega
  ·show(kL g a).length<1000000;omega
  ·show(tB d g a).length<1000000;omega
theorem abk (c:Nat->Nat->abV) (a:c7) (b:Nat):(fN c a b).length=(bk a b).length:=by unfold fN;rw[gw]
theorem Wj (a:Nat):fU (a:Int)=some a:=by unfold fU;rw[if_pos U,dc]
theorem aa6 (e:a*2^h=b*2^v) (g:0<a) (f:0<b):bC a+h=bC b+v/\aC a+h=aC b+v:=by have c:=congrArg bC e;have d:=congrArg aC e;rw[Gr U,Gr f] at c;rw[my U,my f] at d;exact⟨c,d⟩
theorem Wg {a:Int} (b:q*e=a*2^65536) (r:fk a):lj (some q) (some e)=some a:=by
 show e8 (bj q*bj e) (bJ q+bJ e)=some a;have g:∀h:Nat,(2:Int)^h≠0:=λh=>(by have:(0:Int)<2^h:=m3 aa;omega);by_cases c:q=0
 ·rw[c,rO] at b;rw[c,x0,rO,(Int.mul_eq_zero.1 b.symm).resolve_right (g _)];rfl
 by_cases d:e=0
 ·rw[d,Int.mul_zero] at b;rw[d,x0,Int.mul_zero,(Int.mul_eq_zero.1 b.symm).resolve_right (g _)];rfl
 have u:=rn q;have v:=rn e;have aZ:=ln c;have t:=ln d;have x:=x2.1 ⟨U,KE c⟩;have y:=x2.1 ⟨U,KE d⟩;have o:bj q*bj e≠0:=Int.mul_ne_zero aZ t;have k:bC (bj q*bj e).natAbs=0:=(by refine(x2.2 ?_).2;rw[Int.natAbs_mul,Nat.mul_mod,x,y]);have aj:bj q*bj e*2^(bC q.natAbs+bC e.natAbs)=a*2^65536:=by
  rw[<-b,kh]
  conv=>rhs;rw[<-u,<-v]
  rw[kx,kx,Int.mul_left_comm (bj e)]
 have m:bJ q=(bC q.natAbs:Int)-65536:=(by rw[bJ,if_neg c];rfl);have n:bJ e=(bC e.natAbs:Int)-65536:=(by rw[bJ,if_neg d];rfl);rw[m,n];generalize bC q.natAbs=i at*;generalize bC e.natAbs=j at*;generalize bj q*bj e=B at*;have f:=congrArg Int.natAbs aj;rw[lm,lm] at f;have s:0<a.natAbs:=Zm f U;obtain⟨l,z⟩:=aa6 f U s;rw[k] at l;have A:aC a.natAbs<=131072:=r;unfold e8;rw[if_neg o,k,if_neg U];obtain⟨w,p⟩:=eY (U:0<=(i:Int)-65536+((j:Int)-65536)+65536);rw[p,nF];congr 1;have:i+j=w+65536:=U;rw[this,kh,<-kx] at aj;exact Int.mul_eq_mul_right_iff (g _)|>.1 aj
def mK (a:Int):Int:=if a<9223372036854775808 then if bK a=0 then fj a else fj a+4503599627370496 else-(if bK a=0 then fj a else fj a+4503599627370496)
def jA (a:Int):Int:=if bK a=0 then-1074 else bK a-1075
theorem uP (a:bK e≠2047):-1074<=jA e/\jA e<=971:=by have:=xu e;unfold jA;split<;>omega
theorem ve (a:Int):aC (mK a).natAbs<=53:=dF.2 (by
 have b:=xv a;have:(2:Nat)^53=9007199254740992:=aa;rw[this];unfold mK;split<;>split<;>omega)
theorem BL (b:bK e≠2047):ea e=some (mK e*2^(jA e+65536).toNat):=by
 have h:=uP b;have g:=ve e;unfold ea;rw[if_neg b];change e8 (mK e) (jA e)=_;generalize mK e=f at*;generalize jA e=c at*;unfold e8;by_cases a:f=0
 ·rw[if_pos a,a,rO]
 ·rw[if_neg a,if_neg U];obtain⟨i,d⟩:=eY (U:0<=c+65536);rw[d,nF,dc]
theorem Wh (c:bK e≠2047) (d:bK q≠2047):lj (ea e) (ea q)=some (mK e*mK q*2^(jA e+jA q+65536).toNat):=by
 rw[BL c,BL d];have k:=uP c;have l:=uP d;have g:=ve e;have h:=ve q;refine Wg ?_ ?_
 ·generalize mK e=a;generalize mK q=f;have:(jA e+65536).toNat+(jA q+65536).toNat=(jA e+jA q+65536).toNat+65536:=U;have aj:a*2^(jA e+65536).toNat*(f*2^(jA q+65536).toNat)=a*f*(2^(jA e+65536).toNat*2^(jA q+65536).toNat):=by
   generalize(2:Int)^(jA e+65536).toNat=j;generalize(2:Int)^(jA q+65536).toNat=m;rw[kx,kx,Int.mul_left_comm j]
  rw[aj,<-kh,this,kh,<-kx]
 ·have i:=qu g h;rw[<-Int.natAbs_mul] at i;generalize mK e*mK q=a at*;unfold fk;rw[lm];rcases g7 a.natAbs with b|b
  ·rw[b,na];decide
  ·rw[my b];omega
def dP:Nat:=2^67600
theorem GF:dP=2^67600:=by rw[dP]
def hQ (c:Nat) (b:abV):Prop:=∃a,b=some a/\a.natAbs<=c*dP
theorem vw {k:Nat} (a:e.natAbs<=k*dP) (d:k<1048576):fk e:=by refine dn (kG a) ?_;have b:aC k<=20:=dF.2 U;have c:aC dP<=67601:=(by rw[GF];exact dF.2 (B1 67600 67601 aa));have:=qu b c;omega
theorem LM (d:aC a+b<=67600):a*2^b<=1*dP:=by
 rw[g0,GF];refine o6 ((dF (k:=67600)).1 ?_);rcases g7 a with c|c
 ·rw[c,na,show aC 0=0 from rfl];omega
 ·rw[my c];omega
theorem hQ.I7 (a:bK e≠2047):hQ 1 (ea e):=by have c:=uP a;have b:=ve e;refine⟨_,BL a,?_⟩;rw[lm];exact LM U
theorem hQ.mul (a:bK e≠2047) (b:bK q≠2047):hQ 1 (lj (ea e) (ea q)):=by have d:=uP a;have f:=uP b;have c:=qu (ve e) (ve q);rw[<-Int.natAbs_mul] at c;refine⟨_,Wh a b,?_⟩;rw[lm];exact LM U
theorem hQ.neg {b:abV} (c:hQ a b):hQ a (vh b):=by obtain⟨e,rfl,d⟩:=c;exact⟨-e,rfl,by rw[tN];exact d⟩
theorem hQ.sum {a:Nat}:∀{l:c4},(∀d∈l,hQ a d)->gg l=true/\(eL l).natAbs<=l.length*a*dP
 |[],_=>⟨rfl,bN _⟩
 |d::l,b=>by
  obtain⟨c,h⟩:=hQ.sum (l:=l) λg e=>b g (by simp[e]);obtain⟨f,rfl,i⟩:=b d ac;constructor
  ·show(true&&gg l)=true;rw[c];rfl
  ·show(f+eL l).natAbs<=(l.length+1)*a*dP;rw[eD,eD,g0];omega
theorem MO {b:c4} (e:∀d∈b,hQ a d) (g:b.length*a<1048576):gC b=some (eL b)/\hQ (b.length*a) (gC b):=by obtain⟨f,c⟩:=hQ.sum e;have:gC b=some (eL b):=(by unfold gC ld;rw[if_pos f,if_pos (vw c g)]);exact⟨this,_,this,c⟩
theorem Y2 (f:a<=9007199254740992) (g:-1074<=e):0<=kQ false a e 0/\kQ false a e 0<9223372036854775808:=by
 have d:0<=mP false 0/\mP false 0<9223372036854775808:=aa;unfold kQ;have b:∀c,ks false c=c:=λc=>rfl;rw[b,b,b];split
 ·omega
 ·split
  ·split
   ·exact d
   ·omega
  ·split
   ·exact d
   ·omega
theorem ZO {b:Bool} (c:0<a):0<=jg false a q b 0/\jg false a q b 0<9223372036854775808:=by have d:=CB (neg:=false) (ri:=b) (rf:=0) (e:=q) c;have g:-1074<=bM a q:=(by unfold bM;omega);have f:jg false a q b 0=kQ false (if bM a q<=q then a*2^(q-bM a q).toNat else hH false a (bM a q-q).toNat b 0) (bM a q) 0:=(by unfold jg;split<;>rfl);rw[f];exact Y2 d g
theorem ZT (f:0<=e):0<=lu (some e) 0/\lu (some e) 0<9223372036854775808:=by
 show 0<=(if e<0 then(9221120237041090560:Int) else if e=0 then 0 else pT e 0)/\(if e<0 then(9221120237041090560:Int) else if e=0 then 0 else pT e 0)<9223372036854775808;rw[if_neg U];by_cases b:e=0
 ·rw[if_pos b];decide
 rw[if_neg b];unfold pT yh;have d:0<(bj e).natAbs:=(by have:=ln b;omega);have c:58<=aC (ef ((bj e).natAbs*2^ls (bj e).natAbs (gz e))):=Ev (by rw[my d];unfold ls;split<;>omega);refine ZO ?_;rcases g7 (ef ((bj e).natAbs*2^ls (bj e).natAbs (gz e))) with a|a
 ·rw[a] at c;exact absurd c aa
 ·exact a
theorem WK (h:0<=e) (f:e<9223372036854775808) (b:bK e≠2047) (a:uY e≠0):∃c,ea e=some c/\0<c:=by
 refine⟨_,BL b,oS ?_ (m3 aa)⟩;have i:=xv e;unfold uY at a;rw[if_neg b] at a;unfold mK;rw[if_pos f];split
 ·rename_i d;by_cases g:fj e=0
  ·rw[if_pos ⟨d,g⟩] at a;exact absurd rfl a
  ·omega
 ·omega
section
section
variable {A:Nat->Nat->abV} {G:c7} {o:ab1} {n:Nat}
theorem kH {n j:Nat} (b:a<n):(j*n+a)/n=j/\(j*n+a) %n=a:=by
 constructor
 ·rw[im,Nat.mul_add_div U,Nat.div_eq_of_lt b,jM]
 ·rw[im,Nat.mul_add_mod,Nat.mod_eq_of_lt b]
theorem n2 {n:Nat} (c:a<n) (d:b<n):a*n+b<n*n:=by have:(a+1)*n<=n*n:=ga _ c;rw[eD,g0] at this;omega
theorem pY {n:Nat} (a:n<=5):n*n<=25:=jN a a
theorem oJ {n:Nat} (f:n<=5) (e:a<n) (d:b<n):aw (aw ((a:Int)*(n:Int))+(b:Int))=((a*n+b:Nat):Int):=by have h:=n2 e d;have i:=pY f;have c:(a:Int)*(n:Int)=((a*n:Nat):Int):=(by rw[kf]);rw[c];generalize a*n=g at*;generalize n*n=j at*;rw[bp (x:=(g:Int)) U U,bp U U];omega
theorem Gy {n:Nat} (b:n<=5):aw ((n:Int)*(n:Int))=((n*n:Nat):Int):=by have c:=pY b;have a:(n:Int)*(n:Int)=((n*n:Nat):Int):=(by rw[kf]);rw[a];generalize n*n=d at*;rw[bp U U]
end
end
section
section
variable {A:Nat->Nat->abV} {G:c7} {o:ab1} {n:Nat}
def vF (b:Nat->di) (c a:Nat):di:=if a<c then b a else lg
theorem abb (a:Nat->di) {N p:Nat}:(aq N (vF a p)).set p (a p)=aq N (vF a (p+1)):=by
 rw[fA];refine bR λd _=>?_;by_cases b:d=p
 ·subst b;rw[ew];unfold vF;rw[if_pos U]
 ·rw[eG _ _ b];unfold vF;by_cases c:d<p
  ·rw[if_pos c,if_pos U]
  ·rw[if_neg c,if_neg U]
end
end
section
theorem Rs {st A B:ab1} (d:hq b a st A B) {o:ab1} (e:o.length<=1000000) (c:mU b a st A B o≠0) (f:gN):sk (((b:Int),(a:Int),st,A,B,()),o,f,())=some (kp,0,mU b a st A B o,()):=by unfold sk;refine au (GY d e c) ?_;dsimp only;rw[bn (show(mU b a st A B o !=0)=true by rw[dr,ay c];rfl)];rfl
section
variable {n:Nat} {st A B o:ab1}
end
end
section
theorem VY {n:Nat} (f:a<n) (g:b<n) (e:l a b=true):b1 (g4 n l) a b:=by have c:a<(g4 n l).length:=(by rw[sR];exact f);refine⟨c,?_⟩;have d:(g4 n l)[a]=gB ((List.range n).filter (l a)):=gh c;rw[d];exact bT.2 ⟨b,fc.2 ⟨fd.2 g,e⟩,rfl⟩
theorem TM {n:Nat} {E:List bF} (I:E.Pairwise fF) (G:jl n n E) (f:eZ c n) (h:a<n) (i:b<n) (x:a≠b) (k:ba E c a b≠some 0):b1 (ig n (eg E) c) a b:=by
 obtain⟨C,D⟩:=vp f h;obtain⟨ar,F⟩:=vp f i;have y:=f.B6 h;have A:=f.B6 i;have H:hl c a≠hl c b:=λj=>x (by rw[<-y,j,A]);unfold ba at k;rw[C,ar] at k;generalize hl c a=d at*;generalize hl c b=e at*;have B:lx E (hL (d:Int) (e:Int)) (hM (d:Int) (e:Int))≠0:=λj=>k (by rw[j,rp]);have t:∃g∈E,g.1=hL (d:Int) (e:Int)/\g.2.1=hM (d:Int) (e:Int):=(by refine CL λw=>B (Nk λg m z=>w ⟨g,m,z⟩));obtain⟨g,m,p,q⟩:=t;have o:hM (d:Int) (e:Int)<=hL (d:Int) (e:Int)/\hM (d:Int) (e:Int)≠hL (d:Int) (e:Int):=(by unfold hM hL;split<;>split<;>omega);have v:g∈eg E:=fc.2 ⟨m,by unfold pF;exact az (by rw[p,q];exact o.1)⟩;have u:g5 (eg E) d e=true:=by
  unfold g5;rw[m5];refine⟨g,v,?_⟩;rw[p,q];unfold hM hL;unfold hM hL at o;simp only[bg,fy,decide_eq_true_eq];refine⟨?_,?_⟩
  ·split<;>split<;>omega
  ·split<;>split<;>omega
 unfold ig;have s:b2 (g4 n (g5 (eg E))):=(by rw[Jh];exact Bc _);have l:(g4 n (g5 (eg E))).length=n:=sR _ _;rw[Wl (aI:=g4 n (g5 (eg E))) s (by rw[l];exact f) (by rw[l];exact h) (by rw[l];exact i)];have aj:hl c a=d:=(by have:=vp f h;omega);have r:hl c b=e:=(by have:=vp f i;omega);rw[aj,r];exact VY D F u
theorem Zq {G:c7} (k:b2 G) (c:b<a) (l:a<h) (i:a1 G b a=true) (j:a1 G b h=true):a1 G a h=true:=by
 have m:=b1.symm k;obtain⟨p,d⟩:=th.1 i;obtain⟨e,f⟩:=th.1 j;refine th.2 ⟨e,.inr ⟨l,?_⟩⟩;rcases d with g|⟨_,n⟩
 ·omega
 rcases f with g|⟨_,o⟩
 ·omega
 exact((n.symm m).mono (o6 c)).trans c (o.mono (o6 c))
theorem Zp {G:c7} (d:b2 G) (e:a<b) (c:b1 G a b):a1 G a b=true:=th.2 ⟨(c.lt d).2,.inr ⟨e,.one c⟩⟩
def fl (a:Nat->Int):Nat->Int
 |0=>0
 |n+1=>fl a n+a n
theorem F4 {b c:Nat->Int}:∀{n},(∀a,a<n->b a=c a)->fl b n=fl c n
 |0,_=>rfl
 |n+1,d=>by rw[fl,fl,F4 λa e=>d a U,d n U]
theorem Cm {n:Nat} (b:∀a,a<n->k a=0):fl k n=0:=by
 induction n with
 |zero=>rfl
 |succ n c=>rw[fl,c λa d=>b a U,b n U];rfl
theorem Mp (b:Nat->Int) (a c:Nat):fl b (a+c)=fl b a+fl (λe=>b (a+e)) c:=by
 induction c with
 |zero=>show fl b a=fl b a+0;omega
 |succ c d=>rw[<-m9,fl,d,fl];omega
theorem F3 {f:Nat->Int} {n k B:Nat} (b:∀a,a<n->(f a).natAbs<=k*B):(fl f n).natAbs<=n*k*B:=by
 induction n with
 |zero=>exact bN _
 |succ n c=>
  have d:=c λa g=>b a U;have e:=b n U;rw[fl,eD,eD,g0];omega
theorem MX (a:Nat->abV) (n:Nat):eL ((List.range n).map a)=fl (λc=>(a c).getD 0) n:=by
 induction n with
 |zero=>rfl
 |succ n b=>
  rw[iZ,fZ,yv,b,fl];show _+((a n).getD 0+0)=_;omega
section
variable {A:Nat->Nat->abV} {G:c7} {n:Nat}
def hm (A:Nat->Nat->abV) (G:c7) (a b c:Nat):Int:=(iU (bq A (a1 G)) b c a).getD 0
theorem iW.fin (d:iW A G b) (f:G.length=n) {i:Nat} (e:a<b) (g:b<=n):bK (bq A (a1 G) a i)≠2047:=by
 by_cases c:a1 G a i=true
 ·exact d a e i c
 ·rw[s4 (by simpa using c)]
  ·decide
  ·rintro rfl;exact c (B8 U)
theorem Gn (c:iW A G b) (d:G.length=n) (e:b<=n) {x y:Nat} (f:a<b):iU (bq A (a1 G)) x y a=some (hm A G a x y)/\(hm A G a x y).natAbs<=1*dP:=by obtain⟨k,j,h⟩:=(hQ.mul (c.fin d f e (i:=x)) (c.fin d f e (i:=y))).neg;have g:iU (bq A (a1 G)) x y a=some k:=j;unfold hm;rw[g];exact⟨rfl,h⟩
theorem MW (e:iW A G b) (f:G.length=n) (g:b<=n) (j:a<b) (c:a1 G a h=false\/a1 G a v=false):hm A G a h v=0:=by
 unfold hm iU;have k:∀i,a1 G a i=false->bq A (a1 G) a i=0:=λi d=>s4 d (λl=>by
  rw[l,B8 U] at d;cases d)
 obtain⟨p,m⟩:=Fc (e.fin f j g (i:=h));obtain⟨q,o⟩:=Fc (e.fin f j g (i:=v));rcases c with c|c
 ·rw[k _ c,rp,o,Kp];rfl
 ·rw[k _ c,rp,m,Kq];rfl
theorem Wf (d a:abV):lj d a=lj a d:=by
 cases d with
 |none=>cases a<;>rfl
 |some b=>
  cases a with
  |none=>rfl
  |some c=>
   show e8 (bj b*bj c) (bJ b+bJ c)=e8 (bj c*bj b) (bJ c+bJ b);rw[il,Int.add_comm]
theorem MV (a b c:Nat):hm A G a b c=hm A G a c b:=by unfold hm iU;rw[Wf]
theorem Mr (g:iW A G a) (j:G.length=n) (l:a<n) (p:n<=5) (i:hQ 1 (A b a)):h4 A (bq A (a1 G)) a b=some ((A b a).getD 0+fl (λe=>hm A G e b a) a):=by
 have m:∀d∈(A b a::(List.range a).map (iU (bq A (a1 G)) b a)),hQ 1 d:=λd c=>by
  rcases dh.1 c with rfl|c
  ·exact i
  ·obtain⟨e,o,rfl⟩:=bT.1 c;obtain⟨f,k⟩:=Gn g j (o6 l) (x:=b) (y:=a) (fd.1 o);exact⟨_,f,k⟩
 have h:=(MO m (by simp;omega)).1;unfold h4;rw[h];show some ((A b a).getD 0+eL ((List.range a).map (iU (bq A (a1 G)) b a)))=_;rw[MX];rfl
theorem aag (i:iW A G a) (e:b2 G) (k:G.length=n) (f:a<n) (s:n<=5) (r:∀c d,c<n->d<n->c≠d->A c d≠some 0->b1 G c d) (t:b<n) (l:a<b) (o:a1 G a b=false):h4 A (bq A (a1 G)) a b=some 0:=by
 have j:A b a=some 0:=(by refine CL λq=>?_;have:=Zp e l (b1.symm e _ _ (r b a t f U q));rw[o] at this;cases this);rw[Mr i k f s (by rw[j,<-rp];exact hQ.I7 aa),j,Cm]
 ·rfl
 intro p m;refine MW i k (o6 f) m ?_;by_cases g:a1 G p a=true
 ·by_cases h:a1 G p b=true
  ·have:=Zq e m l g h;rw[o] at this;cases this
  ·exact .inl (by simpa using h)
 ·exact .inr (by simpa using g)
end
end
def fJ (a:Nat) (b:Nat->Int):e5:=((a:Int),(a:Int),aq (a*a) (λc=>bf (some (b c))),())
theorem De {c:Nat->Int} (d:∀b,b<a*a->k b=c b):fJ a k=fJ a c:=by unfold fJ;have:aq (a*a) (λb=>bf (some (k b)))=aq (a*a) (λb=>bf (some (c b))):=bR λb e=>(by rw[d b e]);rw[this]
theorem rq (a:fk e):e1 (some e):=λc b=>by cases b;exact a
theorem aas (b:a<=5):zy ((a:Int),(a:Int),((a*a:Nat):Int),())=some (0,()):=by
 have c:=pY b;unfold zy;refine au (y:=(false,())) ?_ ?_
 ·rw[bn (by rw[ay (U:¬(a:Int)<0)];rfl),ay (U:¬(a:Int)<0)]
 dsimp only;rw[cond_false];refine au (y:=(false,())) ?_ ?_
 ·rw[bn (by rw[ay (U:¬(a:Int)>64)];rfl),ay (U:¬(a:Int)>64)]
 dsimp only;rw[cond_false,Gy b,bm (by rw[dr,az rfl];rfl)]
theorem DL (d:a<=5) (f:∀c,c<a*a->fk (k c)):uq (fJ a k,())=some (0,()):=by
 have j:=pY d;have h:ax (fJ a k).2.2.1=((a*a:Nat):Int):=(by rw[a7];exact congrArg _ (bi _ _));unfold uq;dsimp only;rw[h];refine au (aas d) ?_;dsimp only;rw[bm (by rfl)];refine ae.eq_iff.1 ?_;refine ae.aW (P:=λi=>i=.inl ()) ?_ (by rintro _ rfl;exact ae.af.2 rfl);refine ae.steps (a*a) (λb c=>c=((b:Int),())) rfl ?_ ?_
 ·rintro b _ e rfl;dsimp only;rw[bn (az (U:(b:Int)<((a*a:Nat):Int))),bA U];have g:aA (fJ a k).2.2.1 (b:Int)=some (bf (some (k b))):=by
   unfold fJ;rw[bX (by rw[bi];exact e),gh]
  refine ae.bs g (ae.bs (AX (rq (f b e))) ?_);dsimp only;rw[bm (by rfl)];exact ae.af.2 rfl
 ·rintro _ rfl;dsimp only;rw[bm (ay (U:¬(((a*a:Nat):Int)<((a*a:Nat):Int))))];exact ae.af.2 rfl
theorem Z1 (m:a<=5) (g:∀c,c<a->s c<b) (h:∀c,c+1<a->s c<s (c+1)):zx (aq a (λc=>((s c:Nat):Int)),(b:Int),())=some (true,()):=by
 unfold zx;refine ae.eq_iff.1 ?_;dsimp only;refine ae.aW (P:=λk=>k=.inl ()) ?_ (by rintro _ rfl;exact ae.af.2 rfl);have f:∀c,c<a->aA (aq a (λc=>((s c:Nat):Int))) (c:Int)=some ((s c:Nat):Int):=λc i=>(by rw[bX (by rw[bi];exact i),gh]);refine ae.steps a (λd l=>l=((d:Int),())) rfl ?_ ?_
 ·rintro d _ e rfl;dsimp only;rw[bn (az (show(d:Int)<ax (aq a (λc=>((s c:Nat):Int))) by rw[a7,bi];omega)),bA U];have n:=g d e;refine ae.bs (y:=.inl ()) ?_ (ae.af.2 rfl);refine au (f d e) ?_;rw[bn (by rw[ay (U:¬((s d:Nat):Int)<0)];rfl),bn (by rw[ay (U:¬((s d:Nat):Int)>=(b:Int))];rfl)];cases d with
  |zero=>rw[bm (by rfl)]
  |succ d=>
   rw[bn (by rw[az (U:((d+1:Nat):Int)>0)];rfl)];have j:aw (((d+1:Nat):Int)-1)=(d:Int):=(by rw[(U:((d+1:Nat):Int)-1=(d:Int)),bp U U]);rw[j];refine au (f d U) ?_;have:=h d e;rw[bm (ay (U:¬((s d:Nat):Int)>=((s (d+1):Nat):Int)))]
 ·rintro _ rfl;dsimp only;rw[bm (ay (show¬((a:Int)<ax (aq a (λc=>((s c:Nat):Int)))) by rw[a7,bi];omega))];exact ae.af.2 rfl
theorem JA {l:ab1} (k:l.length<=1000000) (f:l[a]?=some e) (h:∀b,b<a->l[b]?≠some e):uF (l,e,())=some ((a:Int),()):=by
 obtain⟨m,g⟩:=List.getElem?_eq_some_iff.1 f;unfold uF;refine ae.eq_iff.1 ?_;dsimp only;refine ae.aW (P:=λb=>b=.inr ((a:Int),())) ?_ (by rintro _ rfl;exact ae.af.2 rfl);refine ae.steps (a+1) (λc j=>c<=a/\j=((c:Int),())) ⟨Nat.zero_le _,rfl⟩ ?_ ?_
 ·rintro c _ n ⟨i,rfl⟩;dsimp only;rw[bn (az (show(c:Int)<ax l by rw[a7];omega)),bA U];refine ae.bs (y:=l[c]'(by omega)) (bX U) ?_
  rw[dT,bu];refine ae.ite (λd=>?_) (λd=>?_)
  ·refine ae.af.2 ?_;rcases bb c a with b|b
   ·exact absurd (by rw[be U,<-d]) (h c b)
   ·obtain rfl:c=a:=U;rfl
  ·refine ae.af.2 ⟨?_,rfl⟩;rcases bb c a with b|b
   ·exact b
   ·obtain rfl:c=a:=U;exact absurd g.symm d
 ·rintro _ ⟨i,rfl⟩;omega
def tw (a d:Nat) (b:Nat->Nat) (c:Nat):Nat:=b (c/a)*d+b (c %a)
def hX (c d:Nat) (h:Nat->Nat) (e f:Nat->Int) (g b:Nat):Int:=e b+fl (λa=>if tw c d h a=b then f a else 0) g
theorem HJ {c:Nat->Int}:hX b h s c k (a+1) v=hX b h s c k a v+if tw b h s a=v then k a else 0:=by unfold hX;rw[fl,Int.add_assoc]
theorem Tm (v:a<=5) (T:b<=a) {pz:Nat->Nat} (o:∀d,d<b->pz d<a) (J:∀d,d+1<b->pz d<pz (d+1)) {f g:Nat->Int} (B:∀c,c<b*b->fk (g c)) (w:∀x c,x<=b*b->c<a*a->fk (hX b a pz f g x c)):zt (fJ a f,aq b (λd=>((pz d:Nat):Int)),fJ b g,())=some (fJ a (hX b a pz f g (b*b)),0,()):=by
 have t:b<=5:=U;have W:=pY v;have V:=pY t;have A:∀c,c<a*a->fk (f c):=λc r=>(by have:=w 0 c (Nat.zero_le _) r;unfold hX at this;rw[fl,Int.add_zero] at this;exact this);have C:∀d,d<b->aA (aq b (λd=>((pz d:Nat):Int))) (d:Int)=some ((pz d:Nat):Int):=λd h=>(by rw[bX (by rw[bi];exact h),gh]);have M:∀c,c<b*b->aA (aq (b*b) (λc=>bf (some (g c)))) (c:Int)=some (bf (some (g c))):=λc r=>(by rw[bX (by rw[bi];exact r),gh]);have L:∀c,c<a*a->aA (aq (a*a) (λc=>bf (some (f c)))) (c:Int)=some (bf (some (f c))):=λc r=>(by rw[bX (by rw[bi];exact r),gh]);have O:ax (aq b (λd=>((pz d:Nat):Int)))=(b:Int):=(by rw[a7,bi]);unfold zt;refine au (DL v A) ?_;dsimp only;rw[bm (by rfl)];refine au (DL t B) ?_;dsimp only;rw[bm (by rfl),O];unfold fJ;dsimp only;refine au (y:=.inl (((0:Int),(0:Int),[],()),())) ?_ ?_
 ·refine au (y:=(false,((0:Int),(0:Int),[],()),())) ?_ ?_
  ·rw[bn (by rw[dr,az rfl];rfl),bn (by rw[dr,az rfl];rfl),dr,az rfl];rfl
  ·rfl
 dsimp only;refine au (Z1 t o J) ?_;dsimp only;have Q:ax (aq (a*a) (λc=>bf (some (f c))))=((a*a:Nat):Int):=(by rw[a7,bi]);rw[bm (by rfl),Q];refine au (gT U) ?_;refine ae.eq_iff.1 ?_;generalize X:(((0:Int),(0:Int),[],()):e5)=m;refine ae.aW (P:=λs=>s=(m,((a:Int),(a:Int),aq (a*a) (λc=>bf (some (f c))),()),())) ?_ ?_
 ·refine ae.steps (a*a) (λi c=>c=((i:Int),m,((a:Int),(a:Int),aq (a*a) (vF (λc=>bf (some (f c))) i),()),())) ?_ ?_ ?_
  ·rw[he];rfl
  ·rintro i _ l rfl;dsimp only;rw[bn (az (U:(i:Int)<((a*a:Nat):Int))),bA U];refine ae.bs (L i l) (ae.bs (xk (rq (A i l))) ?_);dsimp only;refine ae.bs (dy (by rw[bi];exact l)) ?_;rw[dw l];refine ae.af.2 ?_;have:=abb (λc=>bf (some (f c))) (N:=a*a) (p:=i);rw[<-this]
  ·rintro _ rfl;dsimp only;rw[bm (ay (U:¬(((a*a:Nat):Int)<((a*a:Nat):Int))))];refine ae.af.2 ?_;have:aq (a*a) (vF (λc=>bf (some (f c))) (a*a))=aq (a*a) (λc=>bf (some (f c))):=bR λi l=>if_pos l;rw[this]
 rintro _ rfl;dsimp only;refine ae.aW (P:=λs=>s=.inl (m,((a:Int),(a:Int),aq (a*a) (λc=>bf (some (hX b a pz f g (b*b) c))),()),())) ?_ (by rintro _ rfl;exact ae.af.2 rfl);refine ae.steps b (λe c=>c=((e:Int),m,((a:Int),(a:Int),aq (a*a) (λc=>bf (some (hX b a pz f g (e*b) c))),()),())) ?_ ?_ ?_
 ·have:aq (a*a) (λc=>bf (some (hX b a pz f g (0*b) c)))=aq (a*a) (λc=>bf (some (f c))):=bR λc _=>by
   unfold hX;rw[na,fl,Int.add_zero]
  rw[this];rfl
 ·rintro e _ q rfl;dsimp only;rw[bn (az (U:(e:Int)<(b:Int))),bA U];refine ae.aW (P:=λs=>s=.inl (m,((a:Int),(a:Int),aq (a*a) (λc=>bf (some (hX b a pz f g (e*b+b) c))),()),())) ?_ (by rintro _ rfl;exact ae.af.2 (by rw[Nat.add_mul,Nat.one_mul]));refine ae.steps b (λd c=>c=((d:Int),m,((a:Int),(a:Int),aq (a*a) (λc=>bf (some (hX b a pz f g (e*b+d) c))),()),())) rfl ?_ ?_
  ·rintro d _ h rfl;dsimp only;rw[bn (az (U:(d:Int)<(b:Int))),bA U];refine ae.bs (C e q) (ae.bs (C d h) ?_);obtain⟨F,G⟩:=kH (n:=b) (j:=e) h;have k:=n2 (o e q) (o d h);have D:=n2 q h;have E:tw b a pz (e*b+d)=pz e*a+pz d:=(by unfold tw;rw[F,G]);rw[oJ v (o e q) (o d h),oJ t q h];rw[lr (by rw[bi];exact k),gh];refine ae.bs (M _ D) ?_;have H:=w (e*b+d) (pz e*a+pz d) U k;have z:=w (e*b+d+1) (pz e*a+pz d) U k;have I:hX b a pz f g (e*b+d+1) (pz e*a+pz d)=hX b a pz f g (e*b+d) (pz e*a+pz d)+g (e*b+d):=(by rw[HJ,if_pos E]);refine ae.bs (Tn (rq H) (rq (B _ D))) ?_;dsimp only;have K:Hh (some (hX b a pz f g (e*b+d) (pz e*a+pz d))) (some (g (e*b+d)))=some (hX b a pz f g (e*b+d+1) (pz e*a+pz d)):=by
    show ld _=_;unfold ld;rw[<-I,if_pos z]
   rw[K];refine ae.bs (dy (by rw[bi];exact k)) ?_;rw[dw k,fA];have R:aq (a*a) (bZ (λc=>bf (some (hX b a pz f g (e*b+d) c))) (pz e*a+pz d) (bf (some (hX b a pz f g (e*b+d+1) (pz e*a+pz d)))))=aq (a*a) (λc=>bf (some (hX b a pz f g (e*b+d+1) c))):=by
    refine bR λc _=>?_;by_cases u:c=pz e*a+pz d
    ·rw[u,ew]
    ·rw[eG _ _ u,HJ,if_neg (by rw[E];exactλS=>u S.symm),Int.add_zero]
   rw[R];refine ae.bs rfl ?_;dsimp only;rw[lr (by rw[bi];exact k),gh];refine ae.bs (AX (rq z)) ?_;dsimp only;rw[bm (by rfl)];exact ae.af.2 (by rw[Nat.add_assoc])
  ·rintro _ rfl;dsimp only;rw[bm (ay (U:¬((b:Int)<(b:Int))))];exact ae.af.2 rfl
 ·rintro _ rfl;dsimp only;rw[bm (ay (U:¬((b:Int)<(b:Int))))];exact ae.af.2 rfl
section
structure lA (A:Nat->Nat->abV) (G:c7) (n F own N:Nat) (r:Nat->Nat) (HL:Nat->Int):Prop where
 ll:n<=5
 hK:G.length=n
 sT:b2 G
 yY:∀p q,hQ 1 (A p q)
 DR:∀p q,p<n->q<n->p≠q->A p q≠some 0->b1 G p q
 yH:F+own<=n
 l4:own<=N
 rZ:N<=n
 ro:∀i,i<own->r i=F+i
 vv:∀i,i<N->r i<n
 l5:∀i j,i<j->j<N->r i<r j
 co:∀j,j<own->∀x,a1 G (F+j) x=true->∃i,i<N/\r i=x
 Sf:∀j i,j<own->j<=i->i<N->HL (j*N+i)=(A (r i) (r j)).getD 0+fl (λm=>hm A G m (r i) (r j)) F
 Da:∀s,s<N*N->(HL s).natAbs<=1000*dP
def jw (N b c a:Nat):Prop:=a/N<=a %N/\(a/N<b\/(a/N=b/\a %N<c))
def jF (A:Nat->Nat->abV) (G:c7) (F N:Nat) (r:Nat->Nat) (c b a:Nat):Int:=open Classical in if jw N c b a then bq A (a1 G) (F+a/N) (r (a %N)) else 0
def ko (A:Nat->Nat->abV) (G:c7) (F N:Nat) (r:Nat->Nat) (c b a:Nat):di:=open Classical in if jw N c b a then bf (ea (bq A (a1 G) (F+a/N) (r (a %N)))) else lg
def gu (A:Nat->Nat->abV) (G:c7) (F C N:Nat) (r:Nat->Nat) (D:Nat->Int) (b a:Nat):jR:=(fJ N D,((N:Int),(C:Int),aq (N*C) (jF A G F N r b a),()),aq (N*C) (ko A G F N r b a),())
def l9 (A:Nat->Nat->abV) (G:c7) (F N:Nat) (r:Nat->Nat) (D:Nat->Int) (d a b:Nat):Int:=D (b*N+a)+fl (λc=>hm A G (F+c) (r a) (r b)) d
section
variable {A:Nat->Nat->abV} {G:c7} {n F C N:Nat} {r:Nat->Nat} {D:Nat->Int}
theorem C9 {C N:Nat} (c:a<C) (d:b<N):a*N+b<N*C:=by have:(a+1)*N<=C*N:=ga _ c;rw[eD,g0] at this;rw[im N C];omega
theorem lA.tT (a:lA A G n F C N r D):N<=5:=dn a.rZ a.ll
theorem IQ (k:lA A G n F C N r D) (f:a<h) (i:a<C) (g:a<=b) (e:b<N):aA (gu A G F C N r D h v).2.2.1 ((a*N+b:Nat):Int)=some (bf (ea (bq A (a1 G) (F+a) (r b)))):=by show aA (aq (N*C) (ko A G F N r h v)) _=_;rw[bX (by rw[bi];exact C9 i e),gh];obtain⟨c,d⟩:=kH (n:=N) (j:=a) e;unfold ko;rw[c,d,if_pos ⟨by rw[c,d];exact g,.inl (by rw[c];exact f)⟩]
theorem Mt (d:lA A G n F C N r D) (p:iW A G (F+h)) (y:h<=C) (q:a<N) (s:b<N):gC (some (D (b*N+a))::(List.range h).map λc=>iU (bq A (a1 G)) (r a) (r b) (F+c))=some (l9 A G F N r D h a b)/\(l9 A G F N r D h a b).natAbs<=1005*dP:=by
 have z:=d.ll;have x:=d.yH;have j:∀c,c<h->iU (bq A (a1 G)) (r a) (r b) (F+c)=some (hm A G (F+c) (r a) (r b))/\(hm A G (F+c) (r a) (r b)).natAbs<=1*dP:=λc e=>Gn p d.hK U U;have m:=d.Da (b*N+a) (n2 s q);have t:∀i∈(some (D (b*N+a))::(List.range h).map λc=>iU (bq A (a1 G)) (r a) (r b) (F+c)),hQ 1000 i:=λi g=>by
  rcases dh.1 g with rfl|g
  ·exact⟨_,rfl,m⟩
  ·obtain⟨c,e,rfl⟩:=bT.1 g;obtain⟨l,o⟩:=j c (fd.1 e);exact⟨_,l,dn o (ga _ aa)⟩
 constructor
 ·rw[(MO t (by simp;omega)).1];show some (D (b*N+a)+eL ((List.range h).map λc=>iU (bq A (a1 G)) (r a) (r b) (F+c)))=_;rw[MX];rfl
 ·have u:=F3 (f:=λc=>hm A G (F+c) (r a) (r b)) (n:=h) (k:=1) (B:=dP) λc e=>(j c e).2;unfold l9;have v:h*1*dP<=5*dP:=ga _ U;have w:1005*dP=1000*dP+5*dP:=(by rw[<-eD]);omega
theorem F5 (c:lA A G n F C N r D) {g:Nat} (o:iW A G (F+a)) (y:a<=g) (p:a<=C) (x:a<=h) (z:a<=v) (e:h<N) (f:v<N):ur (some (gu A G F C N r D g b),(h:Int),(v:Int),(a:Int),())=some (bf (some (l9 A G F N r D a h v)),()):=by
 have i:=c.tT;have H:=c.ll;have I:=c.l4;obtain⟨q,B⟩:=Mt c o p e f;have l:=n2 f e;have u:∀b,b<a->e1 (iU (bq A (a1 G)) (r h) (r v) (F+b)):=λb _=>Gk _ _ _ _;unfold ur;refine au rfl (au rfl ?_);have aj:(gu A G F C N r D g b).1.1=(N:Int):=rfl;have m:aA (gu A G F C N r D g b).1.2.2.1 ((v*N+h:Nat):Int)=some (bf (some (D (v*N+h)))):=(by show aA (aq (N*N) (λk=>bf (some (D k)))) _=_;rw[bX (by rw[bi];exact l),gh]);rw[aj,oJ i f e];refine au m ?_;refine ae.eq_iff.1 ?_;dsimp only;refine ae.aW (P:=λs=>s=(lg,(some (D (v*N+h))::(List.range a).map λb=>iU (bq A (a1 G)) (r h) (r v) (F+b)).map bf,())) ?_ ?_
 ·refine ae.steps a (λd k=>k=((d:Int),lg,(some (D (v*N+h))::(List.range d).map λb=>iU (bq A (a1 G)) (r h) (r v) (F+b)).map bf,())) rfl ?_ ?_
  ·rintro d _ E rfl;dsimp only;rw[bn (az (U:(d:Int)<(a:Int))),bA U];refine ae.bs rfl (ae.bs rfl ?_);rw[aj,oJ i (U:d<N) e];refine ae.bs (IQ c U U U e) (ae.bs rfl (ae.bs rfl ?_));rw[aj,oJ i (U:d<N) f];refine ae.bs (IQ c U U U f) ?_;refine ae.bs (It (mN _) (mN _)) ?_;dsimp only;refine ae.bs (Iu (E0 _ _)) ?_;dsimp only;rw[dZ (by simp;omega),Option.bind_some];refine ae.af.2 ?_;rw[List.range_succ,List.map_append,<-List.cons_append,List.map_append];rfl
  ·rintro _ rfl;dsimp only;rw[bm (ay (U:¬((a:Int)<(a:Int))))];exact ae.af.2 rfl
 ·rintro _ rfl;dsimp only;refine ae.bs (Iv (λt j=>?_) (by simp;omega)) ?_
  ·rcases dh.1 j with rfl|j
   ·exact rq (vw (c.Da _ l) aa)
   ·obtain⟨b,w,rfl⟩:=bT.1 j;exact Gk _ _ _ _
  dsimp only;rw[q];exact ae.af.2 rfl
theorem zf {s:Nat} (i:a<N) (k:b<=a):jw N b (a+1) s↔jw N b a s\/s=b*N+a:=by
 obtain⟨g,h⟩:=kH (n:=N) (j:=b) i;unfold jw;constructor
 ·rintro⟨d,c|⟨c,f⟩⟩
  ·exact .inl ⟨d,.inl c⟩
  ·rcases bb (s %N) a with e|e
   ·exact .inl ⟨d,.inr ⟨c,e⟩⟩
   ·refine .inr ?_;have:=qj s N;rw[c,im] at this;omega
 ·rintro(⟨d,c|⟨c,f⟩⟩|rfl)
  ·exact⟨d,.inl c⟩
  ·exact⟨d,.inr ⟨c,U⟩⟩
  ·rw[g,h];exact⟨k,.inr ⟨rfl,U⟩⟩
theorem Mw (q:lA A G n F C N r D) (v:a<C) (h:a<=b) (f:b<N):wB (gu A G F C N r D a b,(b:Int),(a:Int),bq A (a1 G) (F+a) (r b),())=some (gu A G F C N r D a (b+1),!decide (bK (bq A (a1 G) (F+a) (r b))=2047),()):=by
 classical
 have u:=q.tT;have z:=q.l4;have i:=C9 v f;have t:=Bz A (a1 G) (F+a) (r b);obtain⟨l,m⟩:=kH (n:=N) (j:=a) f;unfold wB;refine au (vi t) ?_;dsimp only;have aj:(gu A G F C N r D a b).1.1=(N:Int):=rfl;rw[aj,oJ u (U:a<N) f];have o:(gu A G F C N r D a b).2.1.2.2.1=aq (N*C) (jF A G F N r a b):=rfl;have p:(gu A G F C N r D a b).2.2.1=aq (N*C) (ko A G F N r a b):=rfl;refine au (y:=a*N+b) (by rw[o,dy (by rw[bi];exact i)]) ?_;have w:(aq (N*C) (jF A G F N r a b)).set (a*N+b) (bq A (a1 G) (F+a) (r b))=aq (N*C) (jF A G F N r a (b+1)):=by
  rw[fA];refine bR λd _=>?_;have g:=zf (s:=d) f h;by_cases e:d=a*N+b
  ·rw[e,ew];unfold jF;rw[if_pos ((zf f h).2 (.inr rfl)),l,m]
  ·rw[eG _ _ e];unfold jF;by_cases c:jw N a b d
   ·rw[if_pos c,if_pos (g.2 (.inl c))]
   ·rw[if_neg c,if_neg (λk=>(g.1 k).elim c e)]
 have x:(aq (N*C) (ko A G F N r a b)).set (a*N+b) (bf (ea (bq A (a1 G) (F+a) (r b))))=aq (N*C) (ko A G F N r a (b+1)):=by
  rw[fA];refine bR λd _=>?_;have g:=zf (s:=d) f h;by_cases e:d=a*N+b
  ·rw[e,ew];unfold ko;rw[if_pos ((zf f h).2 (.inr rfl)),l,m]
  ·rw[eG _ _ e];unfold ko;by_cases c:jw N a b d
   ·rw[if_pos c,if_pos (g.2 (.inl c))]
   ·rw[if_neg c,if_neg (λk=>(g.1 k).elim c e)]
 rw[o,dw i,w];refine au rfl ?_;dsimp only;refine au (y:=a*N+b) (by rw[p,dy (by rw[bi];exact i)]) ?_;rw[p,dw i,x];refine au rfl ?_;dsimp only;refine au (Bo t) ?_;rfl
theorem H2 {j:Nat} (h:a<N*C):jw N j N a↔jw N (j+1) 0 a:=by
 have g:0<N:=by
  rcases g7 N with d|d
  ·rw[d,na] at h;omega
  ·exact d
 have:=Nat.mod_lt a g;unfold jw;constructor
 ·rintro⟨b,c|⟨c,f⟩⟩
  ·exact⟨b,.inl U⟩
  ·exact⟨b,.inl U⟩
 ·rintro⟨b,c|⟨c,f⟩⟩
  ·rcases bb (a/N) j with e|e
   ·exact⟨b,.inl e⟩
   ·exact⟨b,.inr ⟨U,this⟩⟩
  ·omega
theorem TB:gu A G F C N r D a N=gu A G F C N r D (a+1) 0:=by
 have aj:aq (N*C) (jF A G F N r a N)=aq (N*C) (jF A G F N r (a+1) 0):=bR λd c=>by
  have:=H2 (j:=a) c;unfold jF;by_cases b:jw N a N d
  ·rw[if_pos b,if_pos (this.1 b)]
  ·rw[if_neg b,if_neg (λe=>b (this.2 e))]
 have f:aq (N*C) (ko A G F N r a N)=aq (N*C) (ko A G F N r (a+1) 0):=bR λd c=>by
  have:=H2 (j:=a) c;unfold ko;by_cases b:jw N a N d
  ·rw[if_pos b,if_pos (this.1 b)]
  ·rw[if_neg b,if_neg (λe=>b (this.2 e))]
 unfold gu;rw[aj,f]
theorem TC:gu A G F C N r D a 0=gu A G F C N r D a a:=by
 have e:∀b,jw N a 0 b↔jw N a a b:=λb=>by
  unfold jw;constructor
  ·rintro⟨f,d|⟨d,h⟩⟩
   ·exact⟨f,.inl d⟩
   ·omega
  ·rintro⟨f,d|⟨d,h⟩⟩
   ·exact⟨f,.inl d⟩
   ·omega
 have aj:jF A G F N r a 0=jF A G F N r a a:=by
  funext b;unfold jF;by_cases c:jw N a 0 b
  ·rw[if_pos c,if_pos ((e b).1 c)]
  ·rw[if_neg c,if_neg (λg=>c ((e b).2 g))]
 have i:ko A G F N r a 0=ko A G F N r a a:=by
  funext b;unfold ko;by_cases c:jw N a 0 b
  ·rw[if_pos c,if_pos ((e b).1 c)]
  ·rw[if_neg c,if_neg (λg=>c ((e b).2 g))]
 unfold gu;rw[aj,i]
theorem Mu (c:lA A G n F C N r D) (e:iW A G (F+a)) (d:a<C) (g:a<=b) (f:b<N):some (l9 A G F N r D a b a)=h4 A (bq A (a1 G)) (F+a) (r b):=by have i:=c.ll;have h:=c.yH;rw[Mr e c.hK U c.ll (c.yY _ _)];unfold l9;rw[c.Sf a b d g f,c.ro a d,Mp];congr 1;omega
theorem S1 (c:lA A G n F C N r D) (h:iW A G (F+a)) (i:a<C) (j:a<b) (g:b<N) (m:ea (bq A (a1 G) (F+a) (F+a))=some e) (s:0<e):ow (h4 A (bq A (a1 G)) (F+a) (r b)) (ea (bq A (a1 G) (F+a) (F+a))) 0=bq A (a1 G) (F+a) (r b):=by
 have t:=c.l4;have o:=c.yH;have q:=c.ro a i;have p:=c.l5 a b j g;have k:=c.vv b g;by_cases d:a1 G (F+a) (r b)=true
 ·have l:bq A (a1 G) (F+a) (F+a)=lu (h4 A (bq A (a1 G)) (F+a) (F+a)) 0:=by
   rw[oo];unfold lf;rw[if_pos rfl]
  rw[oo A (a1 G) (F+a) (r b)];unfold lf;rw[if_neg U,if_pos d,<-l]
 ·have f:a1 G (F+a) (r b)=false:=(by simpa using d);rw[aag h c.sT c.hK U c.ll c.DR k U f,s4 f U,m];show(if e=0 then(9221120237041090560:Int) else if(0:Int)=0 then 0 else tj 0 e 0)=0;rw[if_neg U,if_pos rfl]
theorem S4 (d:lA A G n F C N r D) (k:iW A G (F+a)) (i:a<C):ae (zv (gu A G F C N r D a 0,(a:Int),())) λb=>b.2.1=dN A G (F+a)/\(dN A G (F+a)=0->b.1=gu A G F C N r D (a+1) 0):=by
 classical
 have W:=d.tT;have ad:=d.ll;have am:=d.l4;have X:=d.yH;have v:=d.ro a i;have l:=Mu d k i (Nat.le_refl a) (U:a<N);rw[v] at l;have I:bq A (a1 G) (F+a) (F+a)=lu (h4 A (bq A (a1 G)) (F+a) (F+a)) 0:=(by rw[oo];unfold lf;rw[if_pos rfl]);have t:=yk A (bq A (a1 G)) (F+a) (F+a);unfold zv;refine ae.bs (F5 d k (Nat.le_refl _) U (Nat.le_refl _) (Nat.le_refl _) U U) ?_;dsimp only;rw[l];refine ae.bs (AX t) ?_;dsimp only;rw[bm (by rw[<-l];rfl)];refine ae.bs (mC t) ?_;dsimp only;rw[bu];refine ae.ite (λg=>?_) (λg=>?_)
 ·refine ae.af.2 ?_;have e:dN A G (F+a)=231:=(by unfold dN;rw[if_pos (.inl g)]);exact⟨e.symm,λb=>by rw[e] at b;cases b⟩
 refine ae.bs (Jc t) ?_;dsimp only;rw[<-I];have K:=Bz A (a1 G) (F+a) (F+a);refine ae.bs (JL K) ?_;dsimp only;rw[dT,bu];refine ae.ite (λm=>?_) (λm=>?_)
 ·refine ae.af.2 ?_;have e:dN A G (F+a)=231:=(by unfold dN;rw[if_pos (.inr m)]);exact⟨e.symm,λb=>by rw[e] at b;cases b⟩
 have e:dN A G (F+a)=if∀c,a1 G (F+a) c=true->bK (bq A (a1 G) (F+a) c)≠2047 then 0 else 233:=by unfold dN;rw[if_neg (λb=>b.elim g m)]
 have J:=Mw d i (Nat.le_refl a) (U:a<N);rw[v,<-TC] at J;refine ae.bs J ?_;dsimp only;rw[Bool.not_not,bu];refine ae.ite (λo=>?_) (λo=>?_)
 ·refine ae.af.2 ?_;rw[e,if_neg (λb=>b (F+a) (B8 (by rw[d.hK];omega)) o)];exact⟨rfl,λb=>by cases b⟩
 obtain⟨x,S,T⟩:∃x,ea (bq A (a1 G) (F+a) (F+a))=some x/\0<x:=by
  have B:0<=bq A (a1 G) (F+a) (F+a)/\bq A (a1 G) (F+a) (F+a)<9223372036854775808:=by
   rw[I,<-l];refine ZT ?_;rw[<-l] at g;have O:oC (some (l9 A G F N r D a a a))=eQ (l9 A G F N r D a a a):=rfl;rw[O] at g;unfold eQ at g;split at g
   ·exact absurd aa g
   ·omega
  exact WK B.1 B.2 o m
 rw[bA U];refine ae.aW (P:=λb=>(b=.inl (gu A G F C N r D a N,())/\∀c,a<c->c<N->bK (bq A (a1 G) (F+a) (r c))≠2047)\/∃z,b=.inr (z,233,())/\∃c,a<c/\c<N/\bK (bq A (a1 G) (F+a) (r c))=2047) ?_ ?_
 ·refine ae.steps (N-(a+1)) (λf V=>V=(((a+1+f:Nat):Int),gu A G F C N r D a (a+1+f),())/\∀c,a<c->c<a+1+f->bK (bq A (a1 G) (F+a) (r c))≠2047) ⟨rfl,λc y M=>by omega⟩ ?_ ?_
  ·rintro f _ ab ⟨rfl,j⟩;dsimp only;have aj:(gu A G F C N r D a (a+1+f)).1.1=(N:Int):=rfl;rw[aj,bn (az (U:((a+1+f:Nat):Int)<(N:Int))),bA U];have h:a+1+f<N:=U;generalize E:a+1+f=c at*;have p:a<c:=U;refine ae.bs (F5 d k (Nat.le_refl _) U U (Nat.le_refl _) h U) ?_;dsimp only;rw[Mu d k i U h];refine ae.bs (vi K) ?_;dsimp only;refine ae.bs (I9 (yk _ _ _ _) (mN _)) ?_;dsimp only;rw[S1 d k i p h S T];refine ae.bs (Mw d i U h) ?_;dsimp only;rw[Bool.not_not,bu];refine ae.ite (λs=>?_) (λs=>?_)
   ·exact ae.af.2 (.inr ⟨_,rfl,c,p,h,s⟩)
   ·refine ae.af.2 ⟨by rw[(U:a+1+(f+1)=c+1)],λw y M=>?_⟩;rcases bb w c with b|b
    ·exact j w y b
    ·obtain rfl:w=c:=U;exact s
  ·rintro _ ⟨rfl,j⟩;dsimp only;have aj:(gu A G F C N r D a (a+1+(N-(a+1)))).1.1=(N:Int):=rfl;have H:a+1+(N-(a+1))=N:=U;rw[aj,bm (ay (U:¬((a+1+(N-(a+1)):Nat):Int)<(N:Int))),H];rw[H] at j;exact ae.af.2 (.inl ⟨rfl,j⟩)
 ·rintro b (⟨rfl,j⟩|⟨z,rfl,c,p,h,u⟩)
  ·dsimp only;refine ae.af.2 ?_;have Q:∀q,a1 G (F+a) q=true->bK (bq A (a1 G) (F+a) q)≠2047:=λq L=>by
    obtain⟨c,E,rfl⟩:=d.co a i q L;have Y:=Zo L;rcases k5 c a with b|b|b
    ·have:=d.l5 c a b U;omega
    ·subst b;rw[v];exact o
    ·exact j c b E
   rw[e,if_pos Q];exact⟨rfl,λ_=>TB⟩
  ·dsimp only;refine ae.af.2 ?_;have R:a1 G (F+a) (r c)=true:=by
    refine CL λb=>?_;have Z:=d.l5 a c p h;rw[s4 (by simpa using b) U] at u;exact absurd u aa
   rw[e,if_neg (λb=>b _ R u)];exact⟨rfl,λb=>by cases b⟩
end
end
section
section
variable {A:Nat->Nat->abV} {G:c7} {n F B N:Nat} {r:Nat->Nat} {C:Nat->Int}
def nw (a b:Nat):Nat:=max (b/a) (b %a)
def j4 (a b:Nat):Nat:=min (b/a) (b %a)
def lc (A:Nat->Nat->abV) (G:c7) (F B N:Nat) (r:Nat->Nat) (C:Nat->Int) (a:Nat):Int:=l9 A G F N r C B (B+nw (N-B) a) (B+j4 (N-B) a)
def ht (a c d b:Nat):Prop:=j4 a b<c\/(j4 a b=c/\nw a b<d)
def gr (c:Nat->Int) (b e d a:Nat):di:=open Classical in if ht b e d a then bf (some (c a)) else lg
theorem If (y:h<a) (x:b<a) (A:h<=b) (u:k (h*a+b)=e) (v:k (b*a+h)=e):((aq (a*a) (gr k a h b)).set (h*a+b) (bf (some e))).set (b*a+h) (bf (some e))=aq (a*a) (gr k a h (b+1)):=by
 obtain⟨p,q⟩:=kH (n:=a) (j:=h) x;obtain⟨r,s⟩:=kH (n:=a) (j:=b) y;rw[fA,fA];refine bR λc B=>?_;by_cases i:c=b*a+h
 ·rw[i,ew];unfold gr;rw[if_pos (by unfold ht j4 nw;rw[r,s];omega),v]
 rw[eG _ _ i];by_cases l:c=h*a+b
 ·rw[l,ew];unfold gr;rw[if_pos (by unfold ht j4 nw;rw[p,q];omega),u]
 rw[eG _ _ l];have:ht a h (b+1) c↔ht a h b c:=by
  have w:=qj c a;have o:∀f g,c/a=f->c %a=g->c=f*a+g:=λf g aj t=>(by rw[aj,t,im] at w;omega);unfold ht j4 nw;constructor
  ·rintro(d|⟨ar,z⟩)
   ·exact .inl d
   ·refine .inr ⟨ar,?_⟩;rcases bb (max (c/a) (c %a)) b with d|d
    ·exact d
    ·rcases Nat.le_total (c/a) (c %a) with m|m
     ·exact absurd (o h b U U) l
     ·exact absurd (o b h U U) i
  ·rintro(d|⟨ar,z⟩)
   ·exact .inl d
   ·exact .inr ⟨ar,U⟩
 unfold gr;by_cases d:ht a h b c
 ·rw[if_pos d,if_pos (this.2 d)]
 ·rw[if_neg d,if_neg (λm=>d (this.1 m))]
theorem SV:gr k b a 0=gr k b a a:=by
 funext t;have:ht b a 0 t↔ht b a a t:=by
  unfold ht j4 nw;constructor
  ·rintro(c|⟨ar,d⟩)
   ·exact .inl c
   ·omega
  ·rintro(c|⟨ar,d⟩)
   ·exact .inl c
   ·omega
 unfold gr;by_cases c:ht b a 0 t
 ·rw[if_pos c,if_pos (this.1 c)]
 ·rw[if_neg c,if_neg (λe=>c (this.2 e))]
theorem Ie:aq (a*a) (gr k a b a)=aq (a*a) (gr k a (b+1) 0):=bR λc g=>by
 have h:0<a:=by
  rcases g7 a with f|f
  ·rw[f,na] at g;omega
  ·exact f
 have j:=Nat.mod_lt c h;have l:c/a<a:=tU g;have:ht a b a c↔ht a (b+1) 0 c:=by
  unfold ht j4 nw;constructor
  ·rintro(d|⟨ar,i⟩)
   ·exact .inl U
   ·exact .inl U
  ·rintro(d|⟨ar,i⟩)
   ·rcases bb (min (c/a) (c %a)) b with e|e
    ·exact .inl e
    ·exact .inr ⟨U,U⟩
   ·omega
 unfold gr;by_cases d:ht a b a c
 ·rw[if_pos d,if_pos (this.1 d)]
 ·rw[if_neg d,if_neg (λe=>d (this.2 e))]
theorem Tf (g:lA A G n F B N r C) (p:iW A G (F+B)):zw (some (gu A G F B N r C B 0),(B:Int),())=some (fJ (N-B) (lc A G F B N r C),0,()):=by
 have H:=g.tT;have K:=g.ll;have L:=g.l4;have k:N-B<=5:=U;have I:=pY k;have aj:aw ((gu A G F B N r C B 0).1.1-(B:Int))=((N-B:Nat):Int):=(by show aw ((N:Int)-(B:Int))=_;rw[(U:(N:Int)-(B:Int)=((N-B:Nat):Int)),bp U U]);unfold zw;refine au rfl ?_;rw[aj,Gy k];refine au (gT U) ?_;refine ae.eq_iff.1 ?_;dsimp only;generalize J:(((0:Int),(0:Int),[],()):e5)=l;generalize o:N-B=a at*;refine ae.aW (P:=λm=>m=.inl (l,fJ a (lc A G F B N r C),())) ?_ (by rintro _ rfl;exact ae.af.2 rfl);refine ae.steps a (λb i=>i=((b:Int),l,((a:Int),(a:Int),aq (a*a) (gr (lc A G F B N r C) a b 0),()),())) ?_ ?_ ?_
 ·rw[he];have:(aq (a*a) λ_=>lg)=aq (a*a) (gr (lc A G F B N r C) a 0 0):=bR λd _=>by
   unfold gr;rw[if_neg (by unfold ht;omega)]
  rw[<-this];rfl
 ·rintro b _ f rfl;dsimp only;rw[bn (az (U:(b:Int)<(a:Int))),bA U,SV];refine ae.aW (P:=λm=>m=.inl (l,((a:Int),(a:Int),aq (a*a) (gr (lc A G F B N r C) a (b+1) 0),()),())) ?_ (by rintro _ rfl;exact ae.af.2 rfl);refine ae.steps (a-b) (λd i=>i=(((b+d:Nat):Int),l,((a:Int),(a:Int),aq (a*a) (gr (lc A G F B N r C) a b (b+d)),()),())) rfl ?_ ?_
  ·rintro d _ u rfl;dsimp only;rw[bn (az (U:((b+d:Nat):Int)<(a:Int))),bA U];have e:b+d<a:=U;rw[<-Nat.add_assoc b d 1];have h:b<=b+d:=U;generalize b+d=c at*;have D:aw ((B:Int)+(c:Int))=((B+c:Nat):Int):=(by rw[(U:(B:Int)+(c:Int)=((B+c:Nat):Int)),bp U U]);have E:aw ((B:Int)+(b:Int))=((B+b:Nat):Int):=(by rw[(U:(B:Int)+(b:Int)=((B+b:Nat):Int)),bp U U]);rw[D,E];refine ae.bs (F5 g p (Nat.le_refl _) (Nat.le_refl _) U U U U) ?_;dsimp only;obtain⟨_,z⟩:=Mt g p (Nat.le_refl B) (U:B+c<N) (U:B+b<N);have t:fk (l9 A G F N r C B (B+c) (B+b)):=vw z aa;refine ae.bs (AX (rq t)) ?_;dsimp only;rw[bm (by rfl),oJ k f e];have q:=n2 f e;have s:=n2 e f;refine ae.bs (dy (by rw[bi];exact q)) ?_;rw[dw q];refine ae.bs rfl ?_;dsimp only;refine ae.bs (xk (rq t)) ?_;dsimp only;rw[oJ k e f];refine ae.bs (dy (by rw[List.length_set,bi];exact s)) ?_;rw[ng (List.getElem?_eq_getElem (show c*a+b<((aq (a*a) (gr (lc A G F B N r C) a b c)).set (b*a+c) (bf (some (l9 A G F N r C B (B+c) (B+b))))).length by rw[List.length_set,bi];exact s))];obtain⟨v,w⟩:=kH (n:=a) (j:=b) e;obtain⟨x,y⟩:=kH (n:=a) (j:=c) f;rw[If f e h]
   ·exact ae.af.2 rfl
   ·unfold lc nw j4;rw[o,v,w,Nat.max_eq_right h,gm h]
   ·unfold lc nw j4;rw[o,x,y,Nat.max_eq_left h,tV h]
  ·rintro _ rfl;dsimp only;rw[(U:b+(a-b)=a),bm (ay (U:¬((a:Int)<(a:Int)))),Ie];exact ae.af.2 rfl
 ·rintro _ rfl;dsimp only;rw[bm (ay (U:¬((a:Int)<(a:Int))))];refine ae.af.2 ?_;have:aq (a*a) (gr (lc A G F B N r C) a a 0)=aq (a*a) (λi=>bf (some (lc A G F B N r C i))):=bR λd u=>by
   unfold gr;rw[if_pos (show ht a a 0 d from .inl (by
    unfold j4;have:=tU u;omega))]
  rw[this];rfl
theorem abu (a:lA A G n F B N r C):aw ((N:Int)*(B:Int))=((N*B:Nat):Int):=by have b:=a.tT;have e:=a.l4;have d:N*B<=25:=jN b (U:B<=5);have c:(N:Int)*(B:Int)=((N*B:Nat):Int):=(by rw[kf]);rw[c];generalize N*B=f at*;rw[bp U U]
theorem NJ (h:lA A G n F B N r C) (w:∀b,b<F->dN A G b=0):ae (zu (fJ N C,(B:Int),8,())) λc=>(∃a,a<B/\(∀b,b<F+a->dN A G b=0)/\dN A G (F+a)≠0/\∃g f,c=(g,f,(if dN A G (F+a)=231 then(a:Int) else 0),dN A G (F+a),()))\/((∀b,b<F+B->dN A G b=0)/\c=(((N:Int),(B:Int),aq (N*B) (jF A G F N r B 0),()),fJ (N-B) (lc A G F B N r C),(B:Int),0,())):=by
 have q:=h.tT;have W:=h.ll;have X:=h.l4;have Q:N*B<=25:=Nat.mul_le_mul q (U:B<=5);unfold zu;refine ae.bs (DL q λe H=>vw (h.Da e H) aa) ?_;dsimp only;have aj:(fJ N C).1=(N:Int):=rfl;have z:(fJ N C).2.1=(N:Int):=rfl;refine ae.bs (y:=(0,fJ N C,((0:Int),(0:Int),[],()),((0:Int),(0:Int),[],()),())) ?_ ?_
 ·rw[bm (by rfl),aj,z];refine au (y:=(false,fJ N C,((0:Int),(0:Int),[],()),((0:Int),(0:Int),[],()),())) ?_ ?_
  ·rw[bn (by rw[dr,az rfl];rfl),bn (by rw[ay (U:¬(B:Int)<0)];rfl),ay (U:¬(B:Int)>(N:Int))]
  ·rfl
 dsimp only;rw[bm (by rfl),aj,abu h];refine ae.bs (gT U) (ae.bs (gT U) ?_);generalize T:(((0:Int),(0:Int),[],()):k9)=k;generalize S:(((0:Int),(0:Int),[],()):e5)=j;have x:((fJ N C,((N:Int),(B:Int),List.replicate (N*B) (0:Int),()),List.replicate (N*B) ((false,(false,[],()),(0:Int),()):di),()):jR)=gu A G F B N r C 0 0:=(by rw[he,he];have D:(aq (N*B) λ_=>(0:Int))=aq (N*B) (jF A G F N r 0 0):=bR λe _=>(by unfold jF;rw[if_neg (by rintro⟨_,c|⟨_,c⟩⟩<;>exact absurd c (Nat.not_lt_zero _))]);have E:(aq (N*B) λ_=>lg)=aq (N*B) (ko A G F N r 0 0):=bR λe _=>(by unfold ko;rw[if_neg (by rintro⟨_,c|⟨_,c⟩⟩<;>exact absurd c (Nat.not_lt_zero _))]);unfold gu;rw[<-D,<-E];rfl);refine ae.aW (P:=λc=>(∃a,a<B/\(∀b,b<F+a->dN A G b=0)/\dN A G (F+a)≠0/\∃g f,c=.inr (g,f,(if dN A G (F+a)=231 then(a:Int) else 0),dN A G (F+a),()))\/((∀b,b<F+B->dN A G b=0)/\c=.inl (k,j,gu A G F B N r C B 0,()))) ?_ ?_
 ·rcases g7 B with s|s
  ·refine ae.steps 0 (λm e=>e=((0:Int),k,j,gu A G F B N r C 0 0,())) ?_ (λV e O=>by omega) ?_
   ·rw[<-x]
   ·rintro _ rfl;dsimp only;rw[bm (ay (U:¬(0:Int)<(B:Int)))];exact ae.af.2 (.inr ⟨λb v=>w b U,by rw[s]⟩)
  ·refine ae.steps 1 (λm e=>(m=0/\e=((0:Int),k,j,gu A G F B N r C 0 0,()))\/(m=1/\(∀b,b<F+B->dN A G b=0)/\e=((B:Int),k,j,gu A G F B N r C B 0,()))) ?_ ?_ ?_
   ·exact .inl ⟨rfl,by rw[<-x]⟩
   ·rintro m _ R (⟨rfl,rfl⟩|⟨rfl,_,rfl⟩)
    ·dsimp only;rw[bn (az (U:(0:Int)<(B:Int)))];have I:aw ((B:Int)-0)=(B:Int):=(by rw[Int.sub_zero,bp U U]);rw[I,if_pos (U:(B:Int)<8)];have J:aw (0+(B:Int))=(B:Int):=(by rw[Int.zero_add,bp U U]);rw[J];refine ae.aW (P:=λc=>(∃a,a<B/\(∀b,b<F+a->dN A G b=0)/\dN A G (F+a)≠0/\∃g f,c=.inr (.inr (.inr (g,f,(if dN A G (F+a)=231 then(a:Int) else 0),dN A G (F+a),()))))\/((∀b,b<F+B->dN A G b=0)/\c=.inl (k,j,gu A G F B N r C B 0,()))) ?_ ?_
     ·refine ae.steps B (λa e=>(∀b,b<F+a->dN A G b=0)/\e=((a:Int),k,j,gu A G F B N r C a 0,())) ⟨λb v=>w b U,rfl⟩ ?_ ?_
      ·rintro a _ i ⟨d,rfl⟩;dsimp only;rw[bn (az (U:(a:Int)<(B:Int))),bA U];refine ae.aW (S4 h (Bk d) i) ?_;rintro⟨L,K,_⟩ ⟨t,u⟩;dsimp only at t u|-;subst t;rw[dT,bu];refine ae.ite (λl=>?_) (λl=>?_)
       ·rw[u l];refine ae.af.2 ⟨λb v=>?_,rfl⟩;rcases bb b (F+a) with c|c
        ·exact d b c
        ·obtain rfl:b=F+a:=U;exact l
       ·rw[dT,bu];refine ae.ite (λo=>?_) (λo=>?_)
        ·exact ae.af.2 (.inl ⟨a,i,d,l,_,_,by rw[if_pos o]⟩)
        ·exact ae.af.2 (.inl ⟨a,i,d,l,_,_,by rw[if_neg o]⟩)
      ·rintro _ ⟨d,rfl⟩;dsimp only;rw[bm (ay (U:¬((B:Int)<(B:Int))))];exact ae.af.2 (.inr ⟨d,rfl⟩)
     ·rintro c (⟨a,i,d,p,g,f,rfl⟩|⟨d,rfl⟩)
      ·exact ae.af.2 (.inl ⟨a,i,d,p,g,f,rfl⟩)
      ·exact ae.af.2 (.inr ⟨rfl,d,rfl⟩)
    ·omega
   ·rintro _ (⟨M,_⟩|⟨_,d,rfl⟩)
    ·omega
    ·dsimp only;rw[bm (ay (U:¬((B:Int)<(B:Int))))];exact ae.af.2 (.inr ⟨d,rfl⟩)
 ·rintro c (⟨a,i,d,p,g,f,rfl⟩|⟨d,rfl⟩)
  ·exact ae.af.2 (.inl ⟨a,i,d,p,g,f,rfl⟩)
  ·dsimp only;refine ae.bs (Tf h (Bk d)) ?_;dsimp only;rw[bm (by rfl)];exact ae.af.2 (.inr ⟨d,rfl⟩)
end
end
section
def a8 (l:List b3) (t:Nat):Nat:=aK l (t+1)-aK l t
def aM (l:List b3) (t:Nat):Nat:=(eh l (t:Int)).length
def bz (l:List b3) (t a:Nat):Nat:=((eh l (t:Int)).getD a 0).toNat
def fC (l:List b3) (t:Nat):Int:=((l[t]?).map λ(a:b3)=>a.2.2.2.1).getD 0
def jZ (l:List b3) (t b:Nat):Prop:=∃a,a8 l t<=a/\a<aM l t/\bz l t a=b
structure iA (n:Nat) (l:List b3) (t:Nat):Prop where
 lt:t<l.length
 g:l[t]?=some ((aK l t:Int),(aK l (t+1):Int),eh l (t:Int),fC l t,())
 H0:aK l t<aK l (t+1)
 sf:aK l (t+1)<=n
 l4:a8 l t<=aM l t
 rZ:aM l t<=n
 get:∀i,i<aM l t->(eh l (t:Int))[i]?=some ((bz l t i:Nat):Int)
 ro:∀i,i<a8 l t->bz l t i=aK l t+i
 FO:∀i,a8 l t<=i->i<aM l t->aK l (t+1)<=bz l t i
 vv:∀i,i<aM l t->bz l t i<n
 l5:∀i j,i<j->j<aM l t->bz l t i<bz l t j
theorem iA.of {G:c7} {l:List b3} {n t:Nat} (E:ho G l) (p:G.length=n) (e:t<l.length):iA n l t:=by
 obtain⟨D,F,P,_⟩:=E;obtain⟨y,z,A,B⟩:=(D.1 t e).at e;have m:=F t e;have g:eh l (t:Int)=l[t].2.2.1:=rx e;have I:=m.asc U U;have s:(l[t].2.1-l[t].1).toNat=a8 l t:=(by unfold a8;omega);have M:a8 l t<=aM l t:=(by unfold aM;rw[g,<-s];exact m.1);have o:∀i,(a:i<l[t].2.2.1.length)->(i<a8 l t->l[t].2.2.1[i]=(aK l t:Int)+i)/\(a8 l t<=i->(aK l (t+1):Int)<=l[t].2.2.1[i]/\l[t].2.2.1[i]<(n:Int)):=λi a=>(by have b:=m.2 i (bN _) a a;rw[s] at b;refine⟨λd=>by have:=b.1 d;omega,λd=>?_⟩;have c:=b.2 d;rw[p] at c;exact⟨by have:=c.1;omega,c.2.1⟩);have r:∀i,(a:i<l[t].2.2.1.length)->0<=l[t].2.2.1[i]/\l[t].2.2.1[i]<(n:Int):=λi a=>by
  obtain⟨b,c⟩:=o i a;rcases bb i (a8 l t) with d|d
  ·have:=b d;unfold a8 at d;omega
  ·have:=c d;omega
 have q:∀i,i<aM l t->(eh l (t:Int))[i]?=some ((bz l t i:Nat):Int):=λi a=>(by unfold aM at a;unfold bz;rw[g] at a|-;have:=r i a;rw[be a,iF,be a,kB];congr 1;omega);have j:∀i,(a:i<l[t].2.2.1.length)->((bz l t i:Nat):Int)=l[t].2.2.1[i]:=λi a=>(by have:=q i (by unfold aM;rw[g];exact a);rw[g,be a] at this;exact(dV this).symm);have h:∀i,i<aM l t->i<l[t].2.2.1.length:=λi a=>(by unfold aM at a;rw[g] at a;exact a);have u:∀i f,i<f->f<aM l t->bz l t i<bz l t f:=λi f K L=>(by have b:=h f L;have c:=gx.1 I i f U b K;have k:=j i U;have O:=j f b;omega);have v:∀i,i<aM l t->bz l t i<n:=λi a=>(by have:=r i (h i a);have:=j i (h i a);omega);refine⟨e,?_,A,by rw[<-p];exact B,M,?_,q,λi a=>?_,λi b c=>?_,v,u⟩
 ·rw[be e,g];have C:fC l t=l[t].2.2.2.1:=(by unfold fC;rw[be e];rfl);rw[C,<-y,<-z]
 ·have:=E4 ((List.range (aM l t)).map (bz l t)) n ?_ ?_
  ·simpa using this
  ·rw[qh];refine List.Pairwise.imp_of_mem ?_ List.pairwise_lt_range;intro w x Q J H;exact u w x H (fd.1 J)
  ·intro R N;obtain⟨i,a,rfl⟩:=bT.1 N;exact v i (fd.1 a)
 ·have b:=h i U;have:=(o i b).1 a;have:=j i b;omega
 ·have k:=h i c;have:=((o i k).2 b).1;have:=j i k;omega
section
variable {n:Nat} {l:List b3} {t:Nat}
theorem iA.own (a:iA n l t):aK l t+a8 l t=aK l (t+1):=by have:=a.H0;unfold a8;omega
theorem iA.beyond (c:iA n l t) (i:(a:Int)∈eh l (t:Int)) (j:aK l (t+1)<=a):jZ l t a:=by
 obtain⟨b,d,h⟩:=fH.1 i;have f:=c.get b d;rw[be d,h] at f;have g:a=bz l t b:=(by have:=dV f;omega);refine⟨b,?_,d,g.symm⟩;rcases bb b (a8 l t) with e|e
 ·have:=c.ro b e;have:=c.own;omega
 ·exact e
theorem iA.pos (e:iA n l t) (g:(a:Int)∈eh l (t:Int)):∃b,b<aM l t/\bz l t b=a:=by obtain⟨b,c,f⟩:=fH.1 g;have d:=e.get b c;rw[be c,f] at d;exact⟨b,c,by have:=dV d;omega⟩
end
section
variable {G:c7} {l:List b3} {n:Nat}
theorem H1 (d:ho G l) (g:b<=a) (h:a<=l.length):aK l b<=aK l a:=by
 induction a with
 |zero=>
  obtain rfl:b=0:=U;exact aY _
 |succ a e=>
  rcases bb a b with c|c
  ·obtain rfl:b=a+1:=U;exact aY _
  ·have:=e c U;obtain⟨_,_,f,_⟩:=(d.1.1 a U).at U;omega
theorem B2 (d:ho G l) (y:G.length=n) {t:Nat} (e:t<l.length):(fC l t=-1/\∀f,¬jZ l t f)\/∃a:Nat,fC l t=(a:Int)/\t<a/\a<l.length/\∀f,jZ l t f->(f:Int)∈eh l (a:Int):=by
 have g:=iA.of d y e;have p:fC l t=l[t].2.2.2.1:=(by unfold fC;rw[be e];rfl);have h:eh l (t:Int)=l[t].2.2.1:=rx e;obtain⟨D,v,E,F⟩:=(d.1.1 t e).at e;have z:(l[t].2.1-l[t].1).toNat=a8 l t:=(by unfold a8;omega);have A:=d.parent e;rcases d.2.2.1 t e with⟨k,c⟩|⟨k,c,H⟩
 ·refine .inl ⟨by rw[p,c],?_⟩;rintro f ⟨j,ar,b,_⟩;unfold aM at b;rw[h] at b;omega
 ·right;simp only[z] at k c;have o:a8 l t<aM l t:=(by unfold aM;rw[h];exact k);have m:=g.get (a8 l t) o;rw[h,be k] at m;have m:=dV m;rw[m,dc] at c;have J:=g.vv _ o;have I:=g.FO _ (aY _) o;obtain⟨a,q,w,x⟩:=uk d.1 (U:bz l t (a8 l t)<G.length);rw[lB.last d.1 (⟨q,w,x⟩:lB l _ a)] at c;refine⟨a,by rw[p,c],?_,q,?_⟩
  ·rcases bb t a with s|s
   ·exact s
   ·have:=H1 d (U:a+1<=t+1) U;omega
  ·rintro f ⟨j,ar,b,rfl⟩;have r:j<l[t].2.2.1.length:=(by unfold aM at b;rw[h] at b;exact b);have i:=g.get j b;rw[h,be r] at i;have i:=dV i;obtain⟨B,C,K,u⟩:=A.2 j r (by rw[i,v];have:=g.FO j ar b;omega);rw[i] at u;obtain rfl:B=a:=(by rw[c] at C;omega);exact u
theorem B3 (g:b2 G) (h:G.length<=200) (f:ho G l) {t:Nat} (i:t<l.length) (d:aK l t<=a) (e:a<aK l (t+1)) (c:a1 G a b=true):(b:Int)∈eh l (t:Int):=by refine Uz g h f (v:=a) (q:=t) ⟨i,d,e⟩ ?_;unfold a1 at c;exact of_decide_eq_true c
theorem Y4 (g:ho G l) (i:G.length=n) {t:Nat} (w:t<l.length) (k:b<l.length) (j:jZ l b a) (q:a<aK l (t+1)):fC l b<=(t:Int):=by
 rcases B2 g i k with⟨_,f⟩|⟨e,v,r,p,f⟩
 ·exact absurd j (f a)
 ·have o:=f a j;have d:=iA.of g i p;obtain⟨h,m,s⟩:=d.pos o;have u:aK l e<=a:=by
   rcases bb h (a8 l e) with c|c
   ·have:=d.ro h c;omega
   ·have:=d.FO h c m;have:=d.H0;omega
  rcases bb t e with c|c
  ·have:=H1 g (U:t+1<=e) U;omega
  ·omega
end
end
section
def dI (a:Nat->Int):ab0->Int
 |[]=>0
 |c::b=>a c+dI a b
theorem Bs (a:Nat->Int):∀d b,dI a (d++b)=dI a d+dI a b
 |[],b=>by show dI a b=0+dI a b;omega
 |c::d,b=>by show a c+dI a (d++b)=a c+dI a d+dI a b;rw[Bs a d b];omega
theorem xK {b d:Nat->Int}:∀{a:ab0},(∀c∈a,b c=d c)->dI b a=dI d a
 |[],_=>rfl
 |c::a,e=>by show b c+dI b a=d c+dI d a;rw[e c ac,xK λg f=>e g (by simp[f])]
theorem JO {f:Nat->Int} {p:Nat->Bool}:∀{L:ab0},(∀c∈L,p c=false->f c=0)->dI f (L.filter p)=dI f L
 |[],_=>rfl
 |c::L,b=>by
  have d:=JO (f:=f) (p:=p) (L:=L) λg e=>b g (by simp[e]);by_cases a:p c=true
  ·rw[oX a];show f c+dI f _=f c+dI f L;rw[d]
  ·rw[oW a,d];show _=f c+dI f L;rw[b c ac (by simpa using a)];omega
def lY:Nat->Nat
 |0=>0
 |t+1=>lY t+(lY t+5)
theorem JE {t:Nat} (a:t<=5):lY t<=155:=by have:t=0\/t=1\/t=2\/t=3\/t=4\/t=5:=U;rcases this with rfl|rfl|rfl|rfl|rfl|rfl<;>decide
theorem ED {f:Nat->Int} {p:Nat->Bool} {B:Nat}:∀{t},(∀a,a<t->p a=true->(f a).natAbs<=(lY a+5)*B)->(dI f ((List.range t).filter p)).natAbs<=lY t*B
 |0,_=>by show(0:Int).natAbs<=0*B;rw[na];exact aY _
 |t+1,c=>by
  have g:=ED (f:=f) (p:=p) (B:=B) (t:=t) λa e=>c a U;rw[iZ,iX,Bs];show(_:Int).natAbs<=(lY t+(lY t+5))*B;rw[eD];by_cases b:p t=true
  ·rw[oX b,oY];have d:=c t U b;show(dI f ((List.range t).filter p)+(f t+0)).natAbs<=_;omega
  ·rw[oW b,oY];show(dI f ((List.range t).filter p)+0).natAbs<=_;omega
theorem aae {n:Nat} (g:a<n) (c:∀b,b<n->b≠a->k b=0):fl k n=k a:=by
 induction n with
 |zero=>omega
 |succ n f=>
  rw[fl];rcases bb a n with d|d
  ·rw[f d λb e=>c b U,c n U U];omega
  ·obtain rfl:a=n:=U;rw[Cm λb e=>c b U U];omega
def gK (l:List b3) (t:Nat):b3:=((aK l t:Int),(aK l (t+1):Int),eh l (t:Int),fC l t,())
def eE (l:List b3) (cv:Nat->Nat->Nat->Int) (b c a:Nat):Int:=open Classical in if jZ l a b/\jZ l a c then cv a b c else 0
def n4 (l:List b3) (cv:Nat->Nat->Nat->Int) (a b:Nat):Int:=cv a (bz l a (a8 l a+b %(aM l a-a8 l a))) (bz l a (a8 l a+b/(aM l a-a8 l a)))
def jv (l:List b3) (cv:Nat->Nat->Nat->Int) (a:Nat):e5:=fJ (aM l a-a8 l a) (n4 l cv a)
def ec (l:List b3) (t b:Nat):ab0:=(List.range t).filter λa=>decide (fC l a=(b:Int))
def hD (l:List b3) (t b:Nat):Nat:=open Classical in if h:∃a,a<aM l t/\bz l t a=b then Classical.choose h else 0
theorem FH {n:Nat} {l:List b3} {t:Nat} (c:iA n l t) (d:(a:Int)∈eh l (t:Int)):hD l t a<aM l t/\bz l t (hD l t a)=a:=by have b:=c.pos d;unfold hD;rw[dif_pos b];exact Classical.choose_spec b
theorem iA.inj {n:Nat} {l:List b3} {t:Nat} (d:iA n l t) (e:a<aM l t) (f:b<aM l t) (g:bz l t a=bz l t b):a=b:=by
 rcases k5 a b with c|c|c
 ·have:=d.l5 a b c f;omega
 ·exact c
 ·have:=d.l5 b a c e;omega
theorem SU (f:a<b):gr k h b (a+1)=gr k h b a:=by
 funext t;have:ht h b (a+1) t↔ht h b a t:=by
  unfold ht j4 nw;constructor
  ·rintro(c|⟨ar,d⟩)
   ·exact .inl c
   ·omega
  ·rintro(c|⟨ar,d⟩)
   ·exact .inl c
   ·exact .inr ⟨ar,U⟩
 unfold gr;by_cases c:ht h b a t
 ·rw[if_pos c,if_pos (this.2 c)]
 ·rw[if_neg c,if_neg (λe=>c (this.1 e))]
section
variable {A:Nat->Nat->abV} {n:Nat} {l:List b3} {cv:Nat->Nat->Nat->Int} {t:Nat}
def mv (A:Nat->Nat->abV) (l:List b3) (t a:Nat):Int:=if j4 (aM l t) a<a8 l t then(A (bz l t (a %aM l t)) (bz l t (a/aM l t))).getD 0 else 0
def iM (A:Nat->Nat->abV) (l:List b3) (cv:Nat->Nat->Nat->Int) (t:Nat) (b:ab0) (a:Nat):Int:=mv A l t a+dI (eE l cv (bz l t (a %aM l t)) (bz l t (a/aM l t))) b
theorem R8 (q:iA n l t) (p:iA n l a) (O:∀H,jZ l a H->(H:Int)∈eh l (t:Int)) (B:Nat->Int) (G:b<aM l t*aM l t):hX (aM l a-a8 l a) (aM l t) (λe=>hD l t (bz l a (a8 l a+e))) B (n4 l cv a) ((aM l a-a8 l a)*(aM l a-a8 l a)) b=B b+eE l cv (bz l t (b %aM l t)) (bz l t (b/aM l t)) a:=by
 classical
 have L:0<aM l t:=by
  rcases g7 (aM l t) with d|d
  ·rw[d,na] at G;omega
  ·exact d
 have X:=Nat.mod_lt b L;have Y:b/aM l t<aM l t:=tU G;have D:∀e,e<aM l a-a8 l a->hD l t (bz l a (a8 l a+e))<aM l t/\bz l t (hD l t (bz l a (a8 l a+e)))=bz l a (a8 l a+e):=λe ab=>
  FH q (O _ ⟨a8 l a+e,U,U,rfl⟩)
 unfold hX;congr 1;have s:∀c,c<(aM l a-a8 l a)*(aM l a-a8 l a)->(tw (aM l a-a8 l a) (aM l t) (λe=>hD l t (bz l a (a8 l a+e))) c=b↔bz l a (a8 l a+c %(aM l a-a8 l a))=bz l t (b %aM l t)/\bz l a (a8 l a+c/(aM l a-a8 l a))=bz l t (b/aM l t)):=λc f=>by
  have h:0<aM l a-a8 l a:=by
   rcases g7 (aM l a-a8 l a) with d|d
   ·rw[d,na] at f;omega
   ·exact d
  obtain⟨y,z⟩:=D _ (Nat.mod_lt c h);obtain⟨I,A⟩:=D _ (Nat.div_lt_of_lt_mul f);unfold tw;dsimp only;obtain⟨i,k⟩:=kH (n:=aM l t) (j:=hD l t (bz l a (a8 l a+c/(aM l a-a8 l a)))) y;constructor
  ·rintro rfl;rw[i,k,z,A];exact⟨rfl,rfl⟩
  ·rintro⟨aj,m⟩;have C:=q.inj y X (z.trans aj);have f2:=q.inj I Y (A.trans m);rw[C,f2];have:=qj b (aM l t);rw[im] at this;exact this
 unfold eE;by_cases d:jZ l a (bz l t (b %aM l t))/\jZ l a (bz l t (b/aM l t))
 ·rw[if_pos d];obtain⟨⟨e,i1,P,u⟩,⟨g,ad,Q,v⟩⟩:=d;have E:e-a8 l a<aM l a-a8 l a:=U;have M:g-a8 l a<aM l a-a8 l a:=U;obtain⟨i,k⟩:=kH (n:=aM l a-a8 l a) (j:=g-a8 l a) E;have F:=n2 M E;have aj:a8 l a+(e-a8 l a)=e:=U;have m:a8 l a+(g-a8 l a)=g:=U;have R:=(s _ F).2 (by rw[i,k,aj,m];exact⟨u,v⟩);rw[aae F]
  ·rw[if_pos R];unfold n4;rw[i,k,aj,m,u,v]
  ·intro c f N;rw[if_neg];intro o;obtain⟨w,x⟩:=(s c f).1 o;have h:0<aM l a-a8 l a:=U;have S:=Nat.mod_lt c h;have T:c/(aM l a-a8 l a)<aM l a-a8 l a:=tU f;have C:=p.inj (U:a8 l a+c %(aM l a-a8 l a)<aM l a) P (w.trans u.symm);have f2:=p.inj (U:a8 l a+c/(aM l a-a8 l a)<aM l a) Q (x.trans v.symm);have r:=qj c (aM l a-a8 l a);rw[im] at r;have J:c %(aM l a-a8 l a)=e-a8 l a:=U;have K:c/(aM l a-a8 l a)=g-a8 l a:=U;rw[J,K] at r;exact N r.symm
 ·rw[if_neg d];refine Cm λc f=>?_;rw[if_neg];intro o;obtain⟨w,x⟩:=(s c f).1 o;have h:0<aM l a-a8 l a:=by
   rcases g7 (aM l a-a8 l a) with d|d
   ·rw[d,na] at f;omega
   ·exact d
  have S:=Nat.mod_lt c h;have T:c/(aM l a-a8 l a)<aM l a-a8 l a:=tU f;have Z:=p.l4;generalize c %(aM l a-a8 l a)=V at*;generalize c/(aM l a-a8 l a)=W at*;exact d ⟨⟨a8 l a+V,U,U,w⟩,⟨a8 l a+W,U,U,x⟩⟩
theorem JU {f:Nat->Nat} {a:Nat} (b:∀i,i+1<a->f i<f (i+1)):∀i,i<a->i<=f i
 |0,_=>bN _
 |i+1,c=>by have:=JU b i U;have:=b i c;omega
theorem Um {E:List bF} (ft:n<=5) (d1:iK n c E o) {G0:c7} (p:iA n l t) (W:∀h d,hQ 1 (ba E c h d)) {L:ab0} (Y:∀a∈L,iA n l a/\(∀m,jZ l a m->(m:Int)∈eh l (t:Int))/\∀m s,(cv a m s).natAbs<=160*dP) (f7:L.length<=5):zK (some ((n:Int),(G0,()),o,()),gK l t,L.map (gK l),L.map (jv l cv),())=some (fJ (aM l t) (iM (ba E c) l cv t L),0,()):=by
 classical
 have H:aM l t<=5:=Nat.le_trans p.rZ ft;have gt:=pY H;have go:=p.own;have f9:=p.sf;have gl:=p.l4;have fp:ax (gK l t).2.2.1=(aM l t:Int):=a7 _;unfold zK;dsimp only;rw[fp,Gy H];refine au (gT U) ?_;refine ae.eq_iff.1 ?_;generalize a4:(((0:Int),(0:Int),[],()):e5)=w;refine ae.aW (P:=λd=>d=(w,fJ (aM l t) (mv (ba E c) l t),())) ?_ ?_
 ·have el:(gK l t).1=(aK l t:Int):=rfl;have fs:(gK l t).2.1=(aK l (t+1):Int):=rfl;rw[el,fs];refine ae.steps (a8 l t) (λd e=>e=(((aK l t+d:Nat):Int),w,((aM l t:Int),(aM l t:Int),aq (aM l t*aM l t) (gr (λe=>(ba E c (bz l t (e %aM l t)) (bz l t (e/aM l t))).getD 0) (aM l t) d 0),()),())) ?_ ?_ ?_
  ·rw[he];have:(aq (aM l t*aM l t) λ_=>lg)=aq (aM l t*aM l t) (gr (λe=>(ba E c (bz l t (e %aM l t)) (bz l t (e/aM l t))).getD 0) (aM l t) 0 0):=bR λe _=>by
    unfold gr;rw[if_neg (by unfold ht;omega)]
   rw[<-this];rfl
  ·rintro d _ av rfl;dsimp only;rw[bn (az (U:((aK l t+d:Nat):Int)<(aK l (t+1):Int))),bA U];refine ae.aW (P:=λV=>V=(w,((aM l t:Int),(aM l t:Int),aq (aM l t*aM l t) (gr (λe=>(ba E c (bz l t (e %aM l t)) (bz l t (e/aM l t))).getD 0) (aM l t) (d+1) 0),()),())) ?_ (by rintro _ rfl;exact ae.af.2 rfl);refine ae.steps (aM l t) (λh e=>e=((h:Int),w,((aM l t:Int),(aM l t:Int),aq (aM l t*aM l t) (gr (λe=>(ba E c (bz l t (e %aM l t)) (bz l t (e/aM l t))).getD 0) (aM l t) d h),()),())) rfl ?_ ?_
   ·rintro h _ v rfl;dsimp only;rw[bn (az (U:(h:Int)<(aM l t:Int))),bA U];refine ae.aW (P:=λV=>V=(w,((aM l t:Int),(aM l t:Int),aq (aM l t*aM l t) (gr (λe=>(ba E c (bz l t (e %aM l t)) (bz l t (e/aM l t))).getD 0) (aM l t) d (h+1)),()),())) ?_ (by rintro _ rfl;exact ae.af.2 rfl);refine ae.bs (y:=((bz l t h:Nat):Int)) (fS (p.get h v)) ?_;have T:=p.ro d av;have ad:bz l t h>=aK l t+d↔d<=h:=by
     constructor
     ·intro G;rcases bb h d with q|q
      ·have:=p.l5 h d q U;omega
      ·exact q
     ·intro G;rcases Nat.eq_or_lt_of_le G with q|q
      ·rw[<-q,T];exact aY _
      ·have:=p.l5 d h q v;omega
    by_cases S:d<=h
    ·have:=ad.2 S;rw[bn (az (U:((bz l t h:Nat):Int)>=((aK l t+d:Nat):Int)))];refine ae.bs (Mo d1 (p.vv h v) (U:aK l t+d<n)) ?_;dsimp only;have f5:aw (((aK l t+d:Nat):Int)-(aK l t:Int))=(d:Int):=(by rw[(U:((aK l t+d:Nat):Int)-(aK l t:Int)=(d:Int)),bp U U]);rw[f5,oJ H (U:d<aM l t) v];have ap:=n2 (U:d<aM l t) v;have I:=n2 v (U:d<aM l t);refine ae.bs (dy (by rw[bi];exact ap)) ?_;rw[dw ap];refine ae.bs rfl ?_;dsimp only;have f6:aw (aw (aw ((h:Int)*(aM l t:Int))+((aK l t+d:Nat):Int))-(aK l t:Int))=((h*aM l t+d:Nat):Int):=by
      have N:(h:Int)*(aM l t:Int)=((h*aM l t:Nat):Int):=(by rw[kf]);rw[N];generalize h*aM l t=r at*;generalize aM l t*aM l t=gv at*;rw[bp (x:=(r:Int)) U U,bp (x:=(r:Int)+((aK l t+d:Nat):Int)) U U,bp U U];omega
     rw[f6];refine ae.bs (dy (by rw[o4,bi];exact I)) ?_;obtain⟨bB,F,_⟩:=W (bz l t h) (aK l t+d);rw[F];rw[ng (be (show h*aM l t+d<((aq (aM l t*aM l t) (gr (λe=>(ba E c (bz l t (e %aM l t)) (bz l t (e/aM l t))).getD 0) (aM l t) d h)).set (d*aM l t+h) (bf (some bB))).length by rw[o4,bi];exact I))];obtain⟨ce,ci⟩:=kH (n:=aM l t) (j:=d) v;obtain⟨co,cs⟩:=kH (n:=aM l t) (j:=h) (U:d<aM l t);rw[If (U:d<aM l t) v S]
     ·exact ae.af.2 rfl
     ·rw[ce,ci,T,F];rfl
     ·rw[co,cs,T,IM,F];rfl
    ·have:¬bz l t h>=aK l t+d:=λG=>S (ad.1 G);rw[bm (ay (U:¬((bz l t h:Nat):Int)>=((aK l t+d:Nat):Int))),SU U];exact ae.af.2 rfl
   ·rintro _ rfl;dsimp only;rw[bm (ay (U:¬((aM l t:Int)<(aM l t:Int)))),Ie];exact ae.af.2 rfl
  ·rintro _ rfl;dsimp only;rw[bm (ay (U:¬(((aK l t+a8 l t:Nat):Int)<(aK l (t+1):Int))))];have:aq (aM l t*aM l t) (gr (λe=>(ba E c (bz l t (e %aM l t)) (bz l t (e/aM l t))).getD 0) (aM l t) (a8 l t) 0)=aq (aM l t*aM l t) (λe=>bf (some (mv (ba E c) l t e))):=bR λe _=>by
    unfold gr mv;by_cases C:j4 (aM l t) e<a8 l t
    ·rw[if_pos (show ht (aM l t) (a8 l t) 0 e from .inl C),if_pos C]
    ·rw[if_neg (show¬ht (aM l t) (a8 l t) 0 e by unfold ht;omega),if_neg C,Iw]
   rw[this];exact ae.af.2 rfl
 rintro _ rfl;dsimp only;have I:ax (L.map (gK l))=(L.length:Int):=(by rw[a7,List.length_map]);rw[I];have d2:∀e,(mv (ba E c) l t e).natAbs<=1*dP:=λe=>by
  unfold mv;split
  ·obtain⟨bB,F,d4⟩:=W (bz l t (e %aM l t)) (bz l t (e/aM l t));rw[F];exact d4
  ·exact bN _
 have d9:∀a∈L,∀m s,(eE l cv m s a).natAbs<=160*dP:=λa R m s=>by
  unfold eE;split
  ·exact(Y a R).2.2 m s
  ·exact bN _
 have fn:∀(z:ab0),(∀a∈z,a∈L)->∀m s,(dI (eE l cv m s) z).natAbs<=z.length*160*dP:=by
  intro z
  induction z with
  |nil=>intro _ m s;exact bN _
  |cons a z f3=>
   intro J m s;have O:=f3 (λq a4=>J q (by simp[a4])) m s;have Q:=d9 a (J a ac) m s;show(eE l cv m s a+dI (eE l cv m s) z).natAbs<=(z.length+1)*160*dP;rw[eD,eD,g0];omega
 have d3:∀b e,b<=L.length->(iM (ba E c) l cv t (L.take b) e).natAbs<=801*dP:=λb e u=>(by have O:=d2 e;have Q:=fn (L.take b) (λa R=>List.mem_of_mem_take R) (bz l t (e %aM l t)) (bz l t (e/aM l t));have dl:(L.take b).length*160*dP<=800*dP:=ga _ (by rw[eC];omega);have ds:801*dP=1*dP+800*dP:=(by rw[<-eD]);unfold iM;omega);refine ae.aW (P:=λd=>d=.inl (w,fJ (aM l t) (iM (ba E c) l cv t L),())) ?_ (by rintro _ rfl;exact ae.af.2 rfl);refine ae.steps L.length (λb e=>e=((b:Int),w,fJ (aM l t) (iM (ba E c) l cv t (L.take b)),())) ?_ ?_ ?_
 ·have:fJ (aM l t) (iM (ba E c) l cv t (L.take 0))=fJ (aM l t) (mv (ba E c) l t):=De λe _=>by
   unfold iM;rw[List.take_zero];show _+0=_;omega
  rw[this];rfl
 ·rintro b _ u rfl;dsimp only;rw[bn (az (U:(b:Int)<(L.length:Int))),bA U];have f0:L.take (b+1)=L.take b++[L[b]]:=(by rw[List.take_add_one,List.getElem?_eq_getElem u];rfl);obtain⟨A,a3,d6⟩:=Y L[b] (List.getElem_mem u);have d7:(L.map (gK l))[b]?=some (gK l L[b]):=(by rw[List.getElem?_map,List.getElem?_eq_getElem u];rfl);have fz:(L.map (jv l cv))[b]?=some (jv l cv L[b]):=(by rw[List.getElem?_map,List.getElem?_eq_getElem u];rfl);generalize L[b]=a at*;have gf:=A.own;have ge:=A.sf;have d8:=A.l4;have gc:=A.rZ;refine ae.bs (fS d7) ?_;have c1:(gK l a).1=(aK l a:Int):=rfl;have f2:(gK l a).2.1=(aK l (a+1):Int):=rfl;have c2:(gK l a).2.2.1=eh l (a:Int):=rfl;rw[c1,f2,c2];have f1:aw ((aK l (a+1):Int)-(aK l a:Int))=((a8 l a:Nat):Int):=(by rw[(U:(aK l (a+1):Int)-(aK l a:Int)=((a8 l a:Nat):Int)),bp U U]);have fT:((fU (aw ((aK l (a+1):Int)-(aK l a:Int)))).bind λbd=>(some (eh l (a:Int)).length).bind λbl=>(gj bd bl (eh l (a:Int)).length).map λ_=>(bd,bl))=some (a8 l a,aM l a):=by
   rw[f1,Wj];show(gj (a8 l a) (aM l a) (aM l a)).map _=_;unfold gj;rw[if_pos ⟨d8,aY _⟩];rfl
  refine ae.bs fT ?_;dsimp only;have ek:List.drop (a8 l a) (List.take (aM l a) (eh l (a:Int)))=List.drop (a8 l a) (eh l (a:Int)):=(by congr 1;exact List.take_of_length_le (Nat.le_refl _));have ab:(List.drop (a8 l a) (eh l (a:Int))).length=aM l a-a8 l a:=(by rw[List.length_drop];rfl);rw[ek];generalize X:aM l a-a8 l a=i at*;have D:∀b,b<i->hD l t (bz l a (a8 l a+b))<aM l t/\bz l t (hD l t (bz l a (a8 l a+b)))=bz l a (a8 l a+b):=λb u=>
   FH p (a3 _ ⟨a8 l a+b,U,U,rfl⟩)
  refine ae.aW (P:=λd=>d=(w,fJ (aM l t) (iM (ba E c) l cv t (L.take b)),aq i (λb=>((hD l t (bz l a (a8 l a+b)):Nat):Int)),())) ?_ ?_
  ·refine ae.steps i (λr e=>e=((r:Int),w,fJ (aM l t) (iM (ba E c) l cv t (L.take b)),aq r (λb=>((hD l t (bz l a (a8 l a+b)):Nat):Int)),())) rfl ?_ ?_
   ·rintro r _ ex rfl;dsimp only;rw[a7,ab,bn (az (U:(r:Int)<(i:Int))),bA U];have em:(List.drop (a8 l a) (eh l (a:Int)))[r]?=some ((bz l a (a8 l a+r):Nat):Int):=by
     rw[iG];exact A.get _ U
    refine ae.bs (fS em) ?_;obtain⟨K,M⟩:=D r ex;have am:=p.get _ K;rw[M] at am;have f8:(eh l (t:Int)).length=aM l t:=rfl;have eq:uF ((gK l t).2.2.1,((bz l a (a8 l a+r):Nat):Int),())=some ((hD l t (bz l a (a8 l a+r)):Int),()):=(by refine JA (l:=eh l (t:Int)) U am λd av a0=>?_;rw[p.get d U] at a0;have N:bz l t d=bz l a (a8 l a+r):=(by have:=Option.some.inj a0;omega);have:=p.inj (U:d<aM l t) K (N.trans M.symm);omega);refine ae.bs eq ?_;dsimp only;rw[dZ (by rw[bi];simp;omega),Option.bind_some];refine ae.af.2 ?_;rw[n9]
   ·rintro _ rfl;dsimp only;rw[a7,ab,bm (ay (U:¬((i:Int)<(i:Int))))];exact ae.af.2 rfl
  rintro _ rfl;dsimp only;refine ae.bs (fS fz) ?_;have an:∀b,b+1<i->hD l t (bz l a (a8 l a+b))<hD l t (bz l a (a8 l a+(b+1))):=λb u=>by
   obtain⟨K,M⟩:=D b U;obtain⟨ar,f4⟩:=D (b+1) u;have gs:=A.l5 (a8 l a+b) (a8 l a+(b+1)) U U;rcases k5 (hD l t (bz l a (a8 l a+b))) (hD l t (bz l a (a8 l a+(b+1)))) with q|q|q
   ·exact q
   ·rw[q,f4] at M;omega
   ·have:=p.l5 _ _ q K;omega
  have d0:i<=aM l t:=by
   rcases g7 i with C|C
   ·omega
   ·have O:=JU (f:=λb=>hD l t (bz l a (a8 l a+b))) an (i-1) U;have Q:=(D (i-1) U).1;omega
  have d5:jv l cv a=fJ i (n4 l cv a):=(by unfold jv;rw[X]);rw[d5];have Z:∀d,(n4 l cv a d).natAbs<=160*dP:=λd=>d6 _ _;have ed:=Tm H d0 (pz:=λb=>hD l t (bz l a (a8 l a+b))) (λb u=>(D b u).1) an (f:=iM (ba E c) l cv t (L.take b)) (g:=n4 l cv a) (λe _=>vw (Z e) aa) (λh e v _=>by
   have O:=d3 b e U;have Q:=F3 (f:=λd=>if tw i (aM l t) (λb=>hD l t (bz l a (a8 l a+b))) d=e then n4 l cv a d else 0) (n:=h) (k:=160) (B:=dP) (λd _=>by
    split
    ·exact Z d
    ·exact bN _)
   have gi:=pY (U:i<=5);have dl:h*160*dP<=4000*dP:=ga _ U;have ds:4801*dP=801*dP+4000*dP:=(by rw[<-eD]);refine vw (k:=4801) ?_ aa;unfold hX;omega)
  refine ae.bs ed ?_;dsimp only;rw[bm (by rfl)];refine ae.af.2 ?_;have:fJ (aM l t) (hX i (aM l t) (λb=>hD l t (bz l a (a8 l a+b))) (iM (ba E c) l cv t (L.take b)) (n4 l cv a) (i*i))=fJ (aM l t) (iM (ba E c) l cv t (L.take (b+1))):=De λe J=>(by have:=R8 (cv:=cv) p A a3 (iM (ba E c) l cv t (L.take b)) J;rw[X] at this;rw[this,f0];unfold iM;rw[Bs];show _=mv (ba E c) l t e+(_+(_+0));omega);rw[this]
 ·rintro _ rfl;dsimp only;rw[bm (ay (U:¬((L.length:Int)<(L.length:Int)))),List.take_of_length_le (Nat.le_refl _)];exact ae.af.2 rfl
end
end
section
section
variable {A:Nat->Nat->abV} {G:c7} {n:Nat} {l:List b3}
structure m4 (A:Nat->Nat->abV) (G:c7) (n:Nat) (l:List b3) (t:Nat) (cv:Nat->Nat->Nat->Int):Prop where
 sym:∀c,c<t->∀x y,cv c x y=cv c y x
 za:∀c,c<t->∀x y,(cv c x y).natAbs<=(lY c+5)*dP
 du:∀x y,aK l t<=x->x<n->aK l t<=y->y<n->dI (eE l cv x y) ((List.range t).filter λc=>decide ((t:Int)<=fC l c))=fl (λm=>hm A G m x y) (aK l t)
theorem m4.zero (c:Nat->Nat->Nat->Int):m4 A G n l 0 c:=⟨λb a=>absurd a U,λb a=>absurd a U,λd e _ _ _ _=>rfl⟩
theorem JT (a:ho G l):∀{t},t<=l.length->t<=aK l t
 |0,_=>bN _
 |t+1,c=>by have d:=JT a (t:=t) U;obtain⟨_,_,b,_⟩:=(a.1.1 t U).at U;omega
theorem Vz (a:ho G l) (b:G.length=n):l.length<=n:=by have:=JT a (aY l.length);have:=a.1.2;omega
structure m2 (A:Nat->Nat->abV) (G:c7) (n:Nat) (l:List b3):Prop where
 ll:n<=5
 hK:G.length=n
 sT:b2 G
 ok:ho G l
 yY:∀p q,hQ 1 (A p q)
 DR:∀p q,p<n->q<n->p≠q->A p q≠some 0->b1 G p q
theorem m2.f (b:m2 A G n l) (c:a<l.length):iA n l a:=iA.of b.ok b.hK c
theorem m2.JN (a:m2 A G n l):l.length<=5:=dn (Vz a.ok a.hK) a.ll
theorem Io (f:∀b c,i a b c=i a c b) (b c:Nat):eE l i b c a=eE l i c b a:=by
 unfold eE;by_cases d:jZ l a b/\jZ l a c
 ·rw[if_pos d,if_pos ⟨d.2,d.1⟩,f]
 ·rw[if_neg d,if_neg (λe=>d ⟨e.2,e.1⟩)]
theorem zm (c:¬(jZ l a b/\jZ l a h)):eE l i b h a=0:=by unfold eE;rw[if_neg c]
theorem BD:a∈ec l h b↔a<h/\fC l a=(b:Int):=by unfold ec;rw[fc,fd,decide_eq_true_eq]
theorem H4 (d:m2 A G n l) (o:a<=l.length) (j:b∈ec l a a):b<a/\iA n l b/\∀c,jZ l b c->(c:Int)∈eh l (a:Int):=by
 obtain⟨h,i⟩:=BD.1 j;refine⟨h,d.f U,λc g=>?_⟩;rcases B2 d.ok d.hK (U:b<l.length) with⟨_,e⟩|⟨m,k,_,_,e⟩
 ·exact absurd g (e c)
 ·obtain rfl:m=a:=(by rw[k] at i;omega);exact e c g
theorem SH (d:m2 A G n l) (r:m4 A G n l a i) (j:a<l.length) (s:aK l a<=b) (t:b<n) (u:aK l a<=h) (v:h<aK l (a+1)):dI (eE l i b h) (ec l a a)=fl (λw=>hm A G w b h) (aK l a):=by
 have p:=d.f j;have y:=p.sf;rw[<-r.du b h s t u U];have o:ec l a a=((List.range a).filter λc=>decide ((a:Int)<=fC l c)).filter λc=>decide (fC l c=(a:Int)):=by
  unfold ec;rw[List.filter_filter];refine rT λc _=>?_;by_cases e:fC l c=(a:Int)
  ·rw[az e,az (U:(a:Int)<=fC l c)];rfl
  ·rw[ay e];rfl
 rw[o];refine JO λc q g=>zm λx=>?_;obtain⟨k,m⟩:=fc.1 q;have k:=fd.1 k;have m:(a:Int)<=fC l c:=of_decide_eq_true m;have:=Y4 d.ok d.hK j (U:c<l.length) x.2 v;have g:¬fC l c=(a:Int):=of_decide_eq_false g;omega
theorem UB (b:m2 A G n l) (q:m4 A G n l a i) (k:a<l.length):lA A G n (aK l a) (a8 l a) (aM l a) (bz l a) (iM A l i a (ec l a a)):=by
 have c:=b.f k;have I:=b.ll;have P:=c.own;have N:=c.sf;have C:=c.l4;have O:=b.JN;refine⟨I,b.hK,b.sT,b.yY,b.DR,U,C,c.rZ,c.ro,c.vv,c.l5,λe r R H=>?_,λe m r z h=>?_,λd _=>?_⟩
 ·exact c.pos (B3 b.sT (by rw[b.hK];omega) b.ok k U U H)
 ·obtain⟨s,u⟩:=kH (n:=aM l a) (j:=e) h;have E:=c.ro e r;have D:aK l a<=bz l a m:=by
   rcases Nat.eq_or_lt_of_le z with o|o
   ·rw[<-o,E];omega
   ·have:=c.l5 e m o h;omega
  unfold iM mv j4;rw[s,u,if_pos U,SH b q k D (c.vv m h) U U]
 ·unfold iM;have J:(mv A l a d).natAbs<=1*dP:=by
   unfold mv;split
   ·obtain⟨Q,F,x⟩:=b.yY (bz l a (d %aM l a)) (bz l a (d/aM l a));rw[F];exact x
   ·exact bN _
  have v:=ED (f:=eE l i (bz l a (d %aM l a)) (bz l a (d/aM l a))) (p:=λg=>decide (fC l g=(a:Int))) (B:=dP) (t:=a) (λg y _=>by
   unfold eE;split
   ·exact q.za g y _ _
   ·exact bN _)
  have w:=JE (U:a<=5);have K:lY a*dP<=155*dP:=ga _ w;have L:1000*dP=155*dP+845*dP:=(by rw[<-eD]);have M:845*dP=1*dP+844*dP:=(by rw[<-eD]);change(dI (eE l i (bz l a (d %aM l a)) (bz l a (d/aM l a))) (ec l a a)).natAbs<=lY a*dP at v;omega
def j6 (A:Nat->Nat->abV) (G:c7) (l:List b3) (a:Nat) (e:Nat->Nat->Nat->Int) (d b c:Nat):Int:=
 if d=a then dI (eE l e b c) (ec l a a)+fl (λf=>hm A G (aK l a+f) b c) (a8 l a) else e d b c
theorem BK {cv:Nat->Nat->Nat->Int} (c:a<b):j6 A G l b cv a=cv a:=by funext x y;unfold j6;rw[if_neg U]
theorem Tj (e:a<b) (c d:Nat):eE l (j6 A G l b i) c d a=eE l i c d a:=by unfold eE;rw[BK e]
theorem WF (t:m2 A G n l) (w:m4 A G n l a i) (y:a<l.length):fJ (aM l a-a8 l a) (lc A G (aK l a) (a8 l a) (aM l a) (bz l a) (iM A l i a (ec l a a)))=jv l (j6 A G l a i) a:=by
 have C:=t.f y;unfold jv;refine De λk m=>?_;have u:0<aM l a-a8 l a:=by
  rcases g7 (aM l a-a8 l a) with b|b
  ·rw[b,na] at m;omega
  ·exact b
 have z:=Nat.mod_lt k u;have B:k/(aM l a-a8 l a)<aM l a-a8 l a:=tU m;have o:∀g h,g<aM l a-a8 l a->h<=g->l9 A G (aK l a) (aM l a) (bz l a) (iM A l i a (ec l a a)) (a8 l a) (a8 l a+g) (a8 l a+h)=dI (eE l i (bz l a (a8 l a+g)) (bz l a (a8 l a+h))) (ec l a a)+fl (λc=>hm A G (aK l a+c) (bz l a (a8 l a+g)) (bz l a (a8 l a+h))) (a8 l a):=λg h D E=>(by obtain⟨q,r⟩:=kH (n:=aM l a) (j:=a8 l a+h) (U:a8 l a+g<aM l a);unfold l9 iM mv j4;rw[q,r,if_neg U,qd]);have x:∀d e,dI (eE l i d e) (ec l a a)+fl (λc=>hm A G (aK l a+c) d e) (a8 l a)=dI (eE l i e d) (ec l a a)+fl (λc=>hm A G (aK l a+c) e d) (a8 l a):=λd e=>(by have aj:dI (eE l i d e) (ec l a a)=dI (eE l i e d) (ec l a a):=xK λp v=>Io (w.sym p (BD.1 v).1) d e;have s:fl (λc=>hm A G (aK l a+c) d e) (a8 l a)=fl (λc=>hm A G (aK l a+c) e d) (a8 l a):=F4 λc _=>MV _ _ _;rw[aj,s]);unfold lc n4 j6;rw[if_pos rfl];unfold nw j4;rcases Nat.le_total (k/(aM l a-a8 l a)) (k %(aM l a-a8 l a)) with b|b
 ·rw[Nat.max_eq_right b,gm b,o _ _ z b]
 ·rw[Nat.max_eq_left b,tV b,o _ _ B b,x]
theorem JP (a:Nat->Int) (d:Nat):∀b:ab0,dI a (b.filter λc=>decide ((d:Int)<=fC l c))=dI a (b.filter λc=>decide (((d+1:Nat):Int)<=fC l c))+dI a (b.filter λc=>decide (fC l c=(d:Int)))
 |[]=>rfl
 |c::b=>by
  have e:=JP a d b;rw[iD,iD,iD];rcases Int.lt_trichotomy (fC l c) (d:Int) with f|f|f
  ·rw[if_neg (by simp;omega),if_neg (by simp;omega),if_neg (by simp;omega),e]
  ·rw[if_pos (by simp;omega),if_neg (by simp;omega),if_pos (by simp;omega)];show a c+dI a _=dI a _+(a c+dI a _);rw[e];omega
  ·rw[if_pos (by simp;omega),if_pos (by simp;omega),if_neg (by simp;omega)];show a c+dI a _=a c+dI a _+dI a _;rw[e];omega
theorem m4.next (h:m2 A G n l) (r:m4 A G n l a i) (s:a<l.length) (C:iW A G (aK l (a+1))):m4 A G n l (a+1) (j6 A G l a i):=by
 have m:=h.f s;have N:=m.own;have z:=m.sf;have Z:=h.ll;refine⟨λb q c d=>?_,λb q c d=>?_,λc d F O H P=>?_⟩
 ·rcases bb b a with g|g
  ·rw[BK g,r.sym b g]
  ·obtain rfl:b=a:=U;unfold j6;rw[if_pos rfl,if_pos rfl];have aj:dI (eE l i c d) (ec l b b)=dI (eE l i d c) (ec l b b):=xK λj x=>Io (r.sym j (BD.1 x).1) c d;have v:fl (λe=>hm A G (aK l b+e) c d) (a8 l b)=fl (λe=>hm A G (aK l b+e) d c) (a8 l b):=F4 λe _=>MV _ _ _;rw[aj,v]
 ·rcases bb b a with g|g
  ·rw[BK g];exact r.za b g c d
  ·obtain rfl:b=a:=U;unfold j6;rw[if_pos rfl];have L:=ED (f:=eE l i c d) (p:=λj=>decide (fC l j=(b:Int))) (B:=dP) (t:=b) (λj x _=>by
    unfold eE;split
    ·exact r.za j x _ _
    ·exact bN _)
   change(dI (eE l i c d) (ec l b b)).natAbs<=lY b*dP at L;have W:=F3 (f:=λe=>hm A G (aK l b+e) c d) (n:=a8 l b) (k:=1) (B:=dP) (λe M=>(Gn C h.hK z (U:aK l b+e<aK l (b+1))).2);have X:a8 l b*1*dP<=5*dP:=ga _ U;rw[eD];omega
 ·have y:=r.du c d U O U P;rw[JP] at y;have aj:dI (eE l (j6 A G l a i) c d) ((List.range (a+1)).filter λb=>decide (((a+1:Nat):Int)<=fC l b))=dI (eE l i c d) ((List.range a).filter λb=>decide (((a+1:Nat):Int)<=fC l b))+eE l (j6 A G l a i) c d a:=by
   rw[iZ,iX,Bs];have v:dI (eE l (j6 A G l a i) c d) ((List.range a).filter λb=>decide (((a+1:Nat):Int)<=fC l b))=dI (eE l i c d) ((List.range a).filter λb=>decide (((a+1:Nat):Int)<=fC l b)):=xK λb q=>Tj (fd.1 (fc.1 q).1) c d;rw[v];congr 1;rcases B2 h.ok h.hK s with⟨w,u⟩|⟨V,w,Y,_,_⟩
   ·rw[zm λj=>u c j.1,oW (by rw[w];simp;omega)];rfl
   ·rw[oX (by rw[w];simp;omega)];show _+0=_;omega
  rw[aj,<-N,Mp,<-y];have R:eE l (j6 A G l a i) c d a=dI (eE l i c d) (ec l a a)+fl (λe=>hm A G (aK l a+e) c d) (a8 l a):=by
   by_cases g:jZ l a c/\jZ l a d
   ·unfold eE;rw[if_pos g];unfold j6;rw[if_pos rfl];rfl
   ·rw[zm g];have S:dI (eE l i c d) (ec l a a)=dI (λ_=>0) (ec l a a):=xK λb q=>zm λu=>by
     obtain⟨_,_,E⟩:=H4 h (o6 s) q;exact g ⟨m.beyond (E c u.1) F,m.beyond (E d u.2) H⟩
    have T:∀o:ab0,dI (λ_=>0) o=0:=λo=>by
     induction o with
     |nil=>rfl
     |cons b o Q=>show(0:Int)+dI (λ_=>0) o=0;rw[Q];rfl
    rw[S,T,Cm]
    ·rfl
    intro e M;refine MW C h.hK z (U:aK l a+e<aK l (a+1)) ?_;by_cases I:a1 G (aK l a+e) c=true
    ·by_cases J:a1 G (aK l a+e) d=true
     ·have D:G.length<=200:=(by rw[h.hK];omega);exact absurd ⟨m.beyond (B3 h.sT D h.ok s U U I) F,m.beyond (B3 h.sT D h.ok s U U J) H⟩ g
     ·exact .inr (by simpa using J)
    ·exact .inl (by simpa using I)
  have K:dI (eE l i c d) ((List.range a).filter λb=>decide (fC l b=(a:Int)))=dI (eE l i c d) (ec l a a):=rfl;rw[R,K];omega
end
end
section
section
variable {A:Nat->Nat->abV} {G:c7} {n:Nat} {l:List b3}
def hP (A:Nat->Nat->abV) (G:c7) (b c a:Nat):ab1:=if a<b then fN A G a else if a=b then(fN A G a).take c else[]
theorem Gc:hP A G b 0 a=if a<b then fN A G a else[]:=by
 unfold hP;by_cases c:a<b
 ·rw[if_pos c,if_pos c]
 ·rw[if_neg c,if_neg c];split
  ·rfl
  ·rfl
theorem aaE (e:(fN A G a).length<=h):hP A G a h b=hP A G (a+1) 0 b:=by
 rw[Gc];unfold hP;by_cases d:b<a
 ·rw[if_pos d,if_pos U]
 ·rw[if_neg d];by_cases c:b=a
  ·rw[if_pos c,if_pos U,c,dK e]
  ·rw[if_neg c,if_neg U]
theorem aaM (m:m2 A G n l) (z:a<l.length) (i:List gZ) (h:c7):zo ((aq n (bk G),aq n (hP A G (aK l a) 0),i,h,()),gK l a,((aM l a:Int),(a8 l a:Int),aq (aM l a*a8 l a) (jF A G (aK l a) (aM l a) (bz l a) (a8 l a) 0),()),())=some ((aq n (bk G),aq n (hP A G (aK l (a+1)) 0),i,h,()),()):=by
 classical
 have c:=m.f z;have ad:=m.ll;have H:=c.own;have R:=c.sf;have X:=c.l4;have Q:=c.rZ;have T:=m.hK;unfold zo;have E:(gK l a).1=(aK l a:Int):=rfl;have F:(gK l a).2.1=(aK l (a+1):Int):=rfl;have K:(gK l a).2.2.1=eh l (a:Int):=rfl;dsimp only;rw[E,F,K];refine ae.eq_iff.1 ?_;refine ae.aW (P:=λb=>b=((aq n (bk G),aq n (hP A G (aK l (a+1)) 0),i,h,()),())) ?_ (by rintro _ rfl;exact ae.af.2 rfl);refine ae.steps (a8 l a) (λb d=>d=(((aK l a+b:Nat):Int),(aq n (bk G),aq n (hP A G (aK l a+b) 0),i,h,()),())) rfl ?_ ?_
 ·rintro b _ r rfl;dsimp only;rw[bn (az (U:((aK l a+b:Nat):Int)<(aK l (a+1):Int))),bA U];have k:aK l a+b<n:=U;have S:=ww (G:=G) (aK l a+b);have Z:=abk A G (aK l a+b);refine ae.bs (y:=bk G (aK l a+b)) (by rw[bX (by rw[bi];exact k),gh]) ?_;refine ae.aW (P:=λg=>g=((aq n (bk G),aq n (hP A G (aK l a+b+1) 0),i,h,()),())) ?_ (by rintro _ rfl;exact ae.af.2 rfl);refine ae.steps (bk G (aK l a+b)).length (λd g=>g=((d:Int),(aq n (bk G),aq n (hP A G (aK l a+b) d),i,h,()),())) rfl ?_ ?_
  ·rintro d _ s rfl;dsimp only;rw[bn (az (show(d:Int)<ax (bk G (aK l a+b)) by rw[a7];omega)),bA U];obtain⟨e,B,ab,W,I⟩:=zi (List.getElem_mem s);refine ae.bs (y:=(e:Int)) (by rw[bX s,B]) ?_;have M:=B3 m.sT U m.ok z (U:aK l a<=aK l a+b) (U:aK l a+b<aK l (a+1)) I;obtain⟨o,u⟩:=FH c M;have w:=c.get _ o;rw[u] at w;have O:(eh l (a:Int)).length=aM l a:=rfl;refine ae.bs (JA (l:=eh l (a:Int)) U w λt V x=>?_) ?_
   ·rw[c.get t U] at x;have D:bz l a t=e:=(by have:=dV x;omega);have:=c.inj (U:t<aM l a) o (D.trans u.symm);omega
   dsimp only;refine ae.bs (dy (by rw[bi];exact k)) ?_;have N:aw (((aK l a+b:Nat):Int)-(aK l a:Int))=(b:Int):=(by rw[(U:((aK l a+b:Nat):Int)-(aK l a:Int)=(b:Int)),bp U U]);rw[N,oJ (U:aM l a<=5) (U:b<aM l a) o];have J:b<=hD l a e:=by
    rcases bb (hD l a e) b with g|g
    ·have:=c.l5 _ b g U;have:=c.ro b r;omega
    ·exact g
   have L:aA (aq (aM l a*a8 l a) (jF A G (aK l a) (aM l a) (bz l a) (a8 l a) 0)) ((b*aM l a+hD l a e:Nat):Int)=some (bq A (a1 G) (aK l a+b) e):=(by rw[bX (by rw[bi];exact C9 r o),gh];obtain⟨q,v⟩:=kH (n:=aM l a) (j:=b) o;unfold jF;rw[if_pos (show jw (aM l a) (a8 l a) 0 (b*aM l a+hD l a e) from⟨by rw[q,v];exact J,.inl (by rw[q];exact r)⟩),q,v,u]);refine ae.bs L ?_;rw[dw k];refine ae.bs rfl ?_;have Y:(hP A G (aK l a+b) d (aK l a+b)).length<=5:=(by unfold hP;rw[if_neg U,if_pos rfl,eC];omega);rw[dZ (by simp;omega),aG];refine ae.bs (dy (by rw[bi];exact k)) ?_;rw[bn ac,dw k];refine ae.bs rfl ?_;rw[dw k,fA];refine ae.af.2 ?_;have:aq n (bZ (hP A G (aK l a+b) d) (aK l a+b) (hP A G (aK l a+b) d (aK l a+b)++[bq A (a1 G) (aK l a+b) e]))=aq n (hP A G (aK l a+b) (d+1)):=by
    refine bR λC _=>?_;by_cases p:C=aK l a+b
    ·rw[p,ew];unfold hP;rw[if_neg U,if_pos rfl,if_neg U,if_pos rfl,jo];congr 1;unfold fN;rw[eN,be s,B];rfl
    ·rw[eG _ _ p];unfold hP;rw[if_neg p,if_neg p]
   rw[<-this]
  ·rintro _ rfl;dsimp only;rw[bm (ay (show¬(((bk G (aK l a+b)).length:Nat):Int)<ax (bk G (aK l a+b)) by rw[a7];omega))];have:aq n (hP A G (aK l a+b) (bk G (aK l a+b)).length)=aq n (hP A G (aK l a+b+1) 0):=bR λC _=>aaE U;rw[this];exact ae.af.2 rfl
 ·rintro _ rfl;dsimp only;rw[bm (ay (U:¬(((aK l a+a8 l a:Nat):Int)<(aK l (a+1):Int)))),H];exact ae.af.2 rfl
theorem ws (b a:Nat):ec l (b+1) a=if fC l b=(a:Int) then ec l b a++[b] else ec l b a:=by
 unfold ec;rw[iZ,iX];by_cases c:fC l b=(a:Int)
 ·rw[if_pos c,oX (p:=λd=>decide (fC l d=(a:Int))) (by exact decide_eq_true c),oY]
 ·rw[if_neg c,oW (by simpa using c),oY,mj]
theorem H7 (a b:Nat):(ec l a b).length<=a:=by unfold ec;have:=h6 (λc=>decide (fC l c=(b:Int))) (List.range a);rw[qf] at this;exact this
end
theorem SB {n:Nat} {e:ab1} (t:n<=5) (C:hq n n u m e) (Y:gq n n u m e=0) (D:eZ c n) {l:gN} (V:ho (ig n (eg (bQ u m e n)) c) l):sk (((n:Int),(n:Int),u,m,e,()),c,l,())=some (l0 (ba (bQ u m e n) c) (ig n (eg (bQ u m e n)) c) c n):=by
 classical
 obtain⟨bB,cs,c1⟩:=GZ t C Y D;have z:=uU (E:=eg (bQ u m e n)) D;have T:=xC n (eg (bQ u m e n)) c;have av:=Jo (E:=eg (bQ u m e n)) t D;have eq:=D.1;have W:=(jU.1 Y).1;have co:=(jU.1 Y).2;have an:∀q r,hQ 1 (ba (bQ u m e n) c q r):=λq r=>hQ.I7 (abm (sJ W (D4 co)) _ _);have ci:∀b h,b<n->h<n->b≠h->ba (bQ u m e n) c b h≠some 0->b1 (ig n (eg (bQ u m e n)) c) b h:=λb h w x R ce=>TM (qQ W n (Nat.le_refl _)) (qP W) D w x R ce;have k:m2 (ba (bQ u m e n) c) (ig n (eg (bQ u m e n)) c) n l:=⟨t,z,T,V,an,ci⟩;have em:=k.JN;have a3:∀a,(Q:a<l.length)->l[a]=gK l a:=λa Q=>(by have:=(k.f Q).g;rw[List.getElem?_eq_getElem Q] at this;exact Option.some.inj this);have a4:∀v∈l,v.2.2.1.length<=5:=λv ab=>(by obtain⟨a,d,rfl⟩:=List.mem_iff_getElem.1 ab;rw[a3 a d];exact Nat.le_trans (k.f d).rZ t);have c2:gO (ig n (eg (bQ u m e n)) c)=0:=qy.2 ⟨U,T⟩;have d0:A7 (ig n (eg (bQ u m e n)) c) l=0:=(by unfold A7;rw[if_neg (not_not_intro c2),if_pos V]);have ap:=Rq av (l:=l) U (λv ab=>by have:=a4 v ab;omega);rw[d0] at ap;unfold sk;refine au c1 ?_;dsimp only;rw[bm (by rfl)];refine au rfl (au ap ?_);dsimp only;rw[bm (by rfl)];generalize ig n (eg (bQ u m e n)) c=G at*;generalize bQ u m e n=E at*;refine ae.eq_iff.1 ?_;refine ae.aW (P:=λh=>h=.inl (kp,())) ?_ ?_
 ·refine ae.steps l.length (λa ad=>ad=((a:Int),kp,())) rfl ?_ ?_
  ·rintro a _ d rfl;dsimp only;rw[a7,bn (az (U:(a:Int)<(l.length:Int))),bA U];refine ae.bs (y:=l[a]) (bX d) ?_;have:=a4 l[a] (List.getElem_mem d);rw[bm (ay (show¬ax (l[a]).2.2.1>64 by rw[a7];omega))];exact ae.af.2 rfl
  ·rintro _ rfl;dsimp only;rw[a7,bm (ay (U:¬((l.length:Int)<(l.length:Int))))];exact ae.af.2 rfl
 rintro _ rfl;dsimp only;refine ae.bs (HO t z T av bB) ?_;dsimp only;rw[a7];refine ae.bs (gT U) (ae.bs (gT U) ?_);have d6:(aq n λ_=>([]:ab1))=aq n (hP (ba E c) G 0 0):=bR λs _=>(by rw[Gc,if_neg U]);rw[d6];refine ae.aW (P:=λh=>(h=.inr (l0 (ba E c) G c n))\/(h=.inl (kp,(aq n (bk G),aq n (fN (ba E c) G),(aq n λ_=>none),(aq n λq=>gk G n q),()),())/\l0 (ba E c) G c n=(sL (ba E c) G c n,(n:Int),0,()))) ?_ ?_
 ·refine ae.steps l.length (λa ad=>∃i,(∀s,s<aK l a->dN (ba E c) G s=0)/\m4 (ba E c) G n l a i/\ad=((a:Int),kp,(aq n (bk G),aq n (hP (ba E c) G (aK l a) 0),(aq n λ_=>none),(aq n λq=>gk G n q),()),aq l.length (λb=>(ec l a b).map (gK l)),aq l.length (λb=>(ec l a b).map (jv l i)),())) ?_ ?_ ?_
  ·refine⟨λ_ _ _=>0,λs C=>absurd C (tW _),m4.zero _,?_⟩;rw[he,he];rfl
  ·rintro a _ d ⟨i,K,B,rfl⟩;dsimp only;rw[bn (az (U:(a:Int)<(l.length:Int))),bA U];have S:=k.f d;have d3:=S.own;have ed:=S.sf;refine ae.aW (P:=λh=>(h=.inr (.inr (.inr (l0 (ba E c) G c n))))\/∃H,(∀s,s<aK l (a+1)->dN (ba E c) G s=0)/\m4 (ba E c) G n l (a+1) H/\h=.inl (kp,(aq n (bk G),aq n (hP (ba E c) G (aK l (a+1)) 0),(aq n λ_=>none),(aq n λq=>gk G n q),()),aq l.length (λb=>(ec l (a+1) b).map (gK l)),aq l.length (λb=>(ec l (a+1) b).map (jv l H)),())) ?_ ?_
   ·refine ae.bs (y:=gK l a) (by rw[bX d,a3 a d]) ?_;refine ae.bs (dy (by rw[bi];exact d)) (ae.bs (dy (by rw[bi];exact d)) ?_);rw[dw d];refine ae.bs rfl ?_;rw[dw d];refine ae.bs rfl ?_;have ds:=Um (cv:=i) t cs (G0:=G) S an (L:=ec l a a) (λM X=>by
     obtain⟨w,x,R⟩:=H4 k (o6 d) X;refine⟨x,R,λd8 v=>dn (B.za M w d8 v) (ga _ ?_)⟩;have:=JE (U:M<=5);omega) (dn (H7 a a) U)
    refine ae.bs ds ?_;dsimp only;rw[bm (by rfl)];have d1:(gK l a).1=(aK l a:Int):=rfl;have d2:(gK l a).2.1=(aK l (a+1):Int):=rfl;have d5:(gK l a).2.2.2.1=fC l a:=rfl;rw[d1,d2,d5];have d7:aw ((aK l (a+1):Int)-(aK l a:Int))=((a8 l a:Nat):Int):=(by rw[(U:(aK l (a+1):Int)-(aK l a:Int)=((a8 l a:Nat):Int)),bp U U]);rw[d7];refine ae.aW (NJ (UB k B d) K) ?_;rintro h (⟨r,el,d4,bd,b,d9,rfl⟩|⟨J,rfl⟩)
    ·dsimp only;have I:=JW (o:=c) d4 (U:aK l a+r<n) bd;rw[dT,bu];refine ae.ite (λj=>?_) (λj=>?_)
     ·refine ae.af.2 (.inl ?_);rw[I,if_pos j,if_pos j,j];have:aw ((aK l a:Int)+(r:Int))=((aK l a+r:Nat):Int):=(by rw[(U:(aK l a:Int)+(r:Int)=((aK l a+r:Nat):Int)),bp U U]);rw[this];rfl
     ·rw[bn (by rw[dr,ay bd];rfl)];refine ae.af.2 (.inl ?_);rw[I,if_neg j];rfl
    ·rw[d3] at J;have a0:=B.next k d (Bk J);dsimp only;rw[bm (show((0:Int)==231)=false from rfl),bm (show((0:Int)!=0)=false from rfl)];refine ae.bs (aaM k d _ _) ?_;dsimp only;rw[WF k B d];have Z:∀b,(ec l a b).map (jv l (j6 (ba E c) G l a i))=(ec l a b).map (jv l i):=λb=>List.map_congr_left λM X=>by
      have:=BK (A:=ba E c) (G:=G) (l:=l) (cv:=i) (BD.1 X).1;unfold jv n4;rw[this]
     rcases B2 k.ok z d with⟨bl,_⟩|⟨b,F,ex,p,_⟩
     ·rw[bm (ay (show¬fC l a>=0 by rw[bl];decide))];refine ae.af.2 (.inr ⟨_,J,a0,?_⟩);have aj:∀b:Nat,ec l (a+1) b=ec l a b:=λb=>(by rw[ws,if_neg (by rw[bl];omega)]);have N:aq l.length (λb=>(ec l (a+1) b).map (gK l))=aq l.length (λb=>(ec l a b).map (gK l)):=bR λb _=>(by rw[aj]);have O:aq l.length (λb=>(ec l (a+1) b).map (jv l (j6 (ba E c) G l a i)))=aq l.length (λb=>(ec l a b).map (jv l i)):=bR λb _=>(by rw[aj,Z]);rw[N,O]
     ·have ek:=H7 (l:=l) a b;rw[F,bn (az (U:(b:Int)>=0))];refine ae.bs (dy (by rw[bi];exact p)) ?_;rw[dw p];refine ae.bs rfl ?_;rw[dZ (by simp;omega),aG];refine ae.bs (dy (by rw[bi];exact p)) ?_;rw[dw p];refine ae.bs rfl ?_;rw[dZ (by simp;omega),aG];refine ae.bs (dy (by rw[bi];exact p)) ?_;rw[bn ac,dw p];refine ae.bs rfl ?_;rw[dw p,fA];refine ae.bs rfl ?_;refine ae.bs (dy (by rw[bi];exact p)) ?_;rw[bn ac,dw p];refine ae.bs rfl ?_;rw[dw p,fA];refine ae.bs rfl ?_;refine ae.af.2 (.inr ⟨_,J,a0,?_⟩);have N:aq l.length (bZ (λb=>(ec l a b).map (gK l)) b ((ec l a b).map (gK l)++[gK l a]))=aq l.length (λb=>(ec l (a+1) b).map (gK l)):=bR λam _=>by
       by_cases j:am=b
       ·rw[j,ew,ws,if_pos F,fZ];rfl
       ·rw[eG _ _ j,ws,if_neg (by rw[F];omega)]
      have O:aq l.length (bZ (λb=>(ec l a b).map (jv l i)) b ((ec l a b).map (jv l i)++[jv l (j6 (ba E c) G l a i) a]))=aq l.length (λb=>(ec l (a+1) b).map (jv l (j6 (ba E c) G l a i))):=bR λam _=>by
       by_cases j:am=b
       ·rw[j,ew,ws,if_pos F,fZ,Z];rfl
       ·rw[eG _ _ j,ws,if_neg (by rw[F];omega),Z]
      rw[N,O]
   ·rintro h (rfl|⟨H,w,x,rfl⟩)
    ·exact ae.af.2 (.inl rfl)
    ·exact ae.af.2 ⟨H,w,x,rfl⟩
  ·rintro _ ⟨i,K,B,rfl⟩;dsimp only;rw[bm (ay (U:¬((l.length:Int)<(l.length:Int))))];have dl:aK l l.length=n:=(by rw[V.1.2,z]);rw[dl] at K|-;refine ae.af.2 (.inr ⟨?_,EG K⟩);have:aq n (hP (ba E c) G n 0)=aq n (fN (ba E c) G):=bR λs C=>(by rw[Gc,if_pos C]);rw[this]
 ·rintro h (rfl|⟨rfl,I⟩)
  ·exact ae.af.2 rfl
  ·dsimp only;refine ae.bs (IW t z U _ _) ?_;dsimp only;rw[I];exact ae.af.2 rfl
end
section
def yp (c:Nat->Nat->Bool) (e d a b:Nat):Bool:=c a b||(decide (a=e)&&decide (b=d))
theorem IT {n:Nat}:aq h (bZ (λc=>aq n (l c)) a (aq n (bZ (l a) b true)))=aq h (λc=>aq n (yp l a b c)):=
 bR λc _=>by
  by_cases d:c=a
  ·subst d;rw[ew];refine bR λf _=>?_;unfold yp;by_cases e:f=b
   ·subst e;rw[ew];simp
   ·rw[eG _ _ e];simp[e]
  ·rw[eG _ _ d];refine bR λf _=>?_;unfold yp;simp[d]
def j3 (a:Nat->Nat) (b:Nat):b3:=((a b:Int),(a (b+1):Int),[],-1,())
structure mg (G:c7) (n j F:Nat) (c:Nat->Nat) (T:Nat->Nat->Bool):Prop where
 z:c 0=0
 e:c F=j
 m:∀f,f<F->c f<c (f+1)
 t:∀f i,f<F->i<n->(T f i=true↔∃m,c f<=m/\m<c (f+1)/\(i:Int)∈bk G m)
theorem We (f:∀d,d<a->s d<s (d+1)):∀c b,c<b->b<=a->s c<s b:=by
 intro c b i
 induction b with
 |zero=>omega
 |succ b h=>
  intro j;have g:=f b U;rcases bb c b with e|e
  ·have:=h e U;omega
  ·obtain rfl:c=b:=U;exact g
theorem JV (d:∀c,c<a->s c<s (c+1)):∀b,b<=a->s 0+b<=s b:=by
 intro b
 induction b with
 |zero=>intro _;omega
 |succ b e=>
  intro g;have f:=d b U;have:=e U;omega
section
variable {G:c7} {n:Nat} (D:G.length=n) (B:b2 G) (H:n<=5) {A:ab1} (C:A.length<=9223372036854775807)
include D B H C
theorem Tk:ae (loop (σ:=(Int×gN×List gy×Unit)) (ρ:=iL) (λ(q,W,J,_)=>
 bif decide (q<ax (aq n (bk G))) then
 Option.bind (α:=iL) (
 Option.bind (α:=iL) (
 Option.bind (α:=(Bool×gN×List gy×Unit)) (bif (q==0)==false then(sv (A,aw (900+q),())).bind λ(d3,_)=>
 (dm IntKind.u64 d3 7).bind λd6=>
 (gV d6 3).bind λd7=>
 some (decide (d7>0),W,J,()) else some (true,W,J,())) λ(d4,X,K,_)=>
  bif d4 then
 (bS (X.length+([(q,(aZ q,(([]:aX),((-1:Int),()))))]).length)).bind λ_=>
 (eo (ax (aq n (bk G))) (ax (aq n (bk G)))).bind λa4=>
 (bS (K.length+([List.replicate a4 false]).length)).bind λ_=>
 some ((X++[(q,(aZ q,(([]:aX),((-1:Int),()))))]),(K++[List.replicate a4 false]),()) else
 some (X,K,())) λ(D,co,_)=>
 (bh D.length (aw (ax D-1))).bind λan=>
 (a9 D an λZ=>some (D.set an (Z.1,(aZ q,Z.2.2)))).bind λek=>
 (loop (σ:=(Int×gN×List gy×Unit)) (ρ:=iL) (λ(V,a0,x,_)=>
 (aA (aq n (bk G)) q).bind λd8=>
  bif decide (V<ax d8) then
 (bh x.length (aw (ax D-1))).bind λS=>
 (aA (aq n (bk G)) q).bind λd9=>
 (aA d9 V).bind λed=>
 ((a9 x S λbB=>some bB).bind λce=>bh ce.length ed).bind λap=>
 (a9 x S λab=>(a9 ab ap λ_=>some (ab.set ap true)).map λel=>x.set S el).bind λem=>
 some (.inl (aZ V,a0,em,())) else
 some (.inr (a0,x,()))) (0,ek,co,())).bind λ(d0,cs,_)=>
 some (d0,cs,())) λ(d1,cv,_)=>
 some (.inl (aZ q,d1,cv,())) else
 some (.inr (W,J,()))) (0,[],[],())) (λd2=>∃f i l,mg G n n f i l/\d2=(aq f (j3 i),aq f (λa=>aq n (l a)),())):=by
 refine ae.steps n (λc Y=>∃f i l,mg G n c f i l/\Y=((c:Int),aq f (j3 i),aq f (λa=>aq n (l a)),())) ⟨0,λ_=>0,λ_ _=>false,⟨rfl,rfl,λa j=>absurd j (tW _),λa d j=>absurd j (tW _)⟩,rfl⟩ ?_ ?_
 ·rintro c _ M ⟨f,i,l,p,rfl⟩;have ex:=JV p.m f (Nat.le_refl _);have fn:=p.z;have L:=p.e;dsimp only;rw[a7,bi,bn (az (U:(c:Int)<(n:Int))),bA U];refine ae.aW (P:=λu=>∃(b:Nat) (h:Nat->Nat) (r:Nat->Nat->Bool),h 0=0/\(∀a,a<b->h a<h (a+1))/\h b<=c/\b<=c/\(∀a d,a<b+1->d<n->(r a d=true↔∃k,h a<=k/\k<bZ h (b+1) (c+1) (a+1)/\(d:Int)∈bk G k))/\u=(aq (b+1) (j3 (bZ h (b+1) (c+1))),aq (b+1) (λa=>aq n (r a)),())) ?_ ?_
  ·refine ae.aW (P:=λu=>∃(b:Nat) (h:Nat->Nat) (r:Nat->Nat->Bool) (I:Int),h 0=0/\(∀a,a<b->h a<h (a+1))/\h b<=c/\b<=c/\(∀a d,a<b+1->d<n->(r a d=true↔∃k,h a<=k/\k<bZ h (b+1) c (a+1)/\(d:Int)∈bk G k))/\u=(aq (b+1) (bZ (j3 h) b ((h b:Int),I,[],-1,())),aq (b+1) (λa=>aq n (r a)),())) ?_ ?_
   ·refine ae.aW (P:=λu=>∃E:Bool,u=(E,aq f (j3 i),aq f (λa=>aq n (l a)),())/\(E=false->0<c)) ?_ ?_
    ·rw[dT];by_cases g:c=0
     ·rw[bm (by simp[g])];exact ae.af.2 ⟨_,rfl,λj=>by cases j⟩
     ·rw[bn (by simp[g])];refine ae.aW (Gz A C _) ?_;rintro⟨d5,_⟩ dl;dsimp only at dl|-;obtain⟨bd,ds⟩:∃bd,dm IntKind.u64 d5 7=some bd:=⟨_,if_pos aa⟩;refine ae.bs ds ?_;unfold gV;rw[if_pos aa,Option.bind_some];exact ae.af.2 ⟨_,rfl,λ_=>by omega⟩
    ·rintro _ ⟨E,rfl,c1⟩;dsimp only;cases E with
     |true=>
      rw[cond_true,dZ (by rw[bi];simp;omega),aG];refine ae.bs (gT U) ?_;rw[dZ (by rw[bi];simp;omega),aG];refine ae.af.2 ⟨f,i,(λa d=>if a<f then l a d else false),((c+1:Nat):Int),p.z,p.m,U,U,?_,?_⟩
      ·intro a d o s;dsimp only;by_cases g:a<f
       ·rw[if_pos g,eG _ _ U];exact p.t a d g s
       ·obtain rfl:a=f:=U;rw[if_neg g,ew];refine⟨λj=>(by cases j),λj=>?_⟩;obtain⟨k,F,a3,_⟩:=j;omega
      ·have aj:aq f (j3 i)++[((c:Int),((c+1:Nat):Int),([]:ab1),(-1:Int),())]=aq (f+1) (bZ (j3 i) f ((i f:Int),((c+1:Nat):Int),[],-1,())):=by
        rw[n9,ew,L];congr 1;exact bR λa o=>(eG _ _ U).symm
       have bl:aq f (λa=>aq n (l a))++[List.replicate n false]=aq (f+1) (λa=>aq n (λd=>if a<f then l a d else false)):=(by rw[n9,he];simp only[Nat.lt_irrefl,if_false];congr 1;exact bR λa o=>bR λw _=>by rw[if_pos o]);rw[aj,bl]
     |false=>
      have fs:=c1 rfl;rw[cond_false];obtain⟨b,rfl⟩:∃b,f=b+1:=⟨f-1,by
       rcases g7 f with g|g
       ·subst g;omega
       ·omega⟩
      have ft:=p.m b U;refine ae.af.2 ⟨b,i,l,(c:Int),p.z,λa o=>p.m a U,U,U,?_,?_⟩
      ·intro a d o s;rw[p.t a d o s];by_cases g:a=b
       ·subst g;rw[ew,L]
       ·rw[eG _ _ U]
      ·congr 1;refine bR λa o=>?_;by_cases g:a=b
       ·subst g;rw[ew];unfold j3;rw[L]
       ·rw[eG _ _ g]
   ·rintro _ ⟨b,h,r,I,O,Q,R,av,T,rfl⟩;dsimp only;rw[a7,bi,show aw (((b+1:Nat):Int)-1)=(b:Int) by rw[(U:((b+1:Nat):Int)-1=(b:Int)),bp U U]];refine ae.bs (dy (Nat.lt_succ_self b)) ?_;rw[dw (Nat.lt_succ_self b),ew,fA];refine ae.bs rfl ?_;have aj:aq (b+1) (bZ (bZ (j3 h) b ((h b:Int),I,[],-1,())) b ((h b:Int),((c+1:Nat):Int),[],-1,()))=aq (b+1) (j3 (bZ h (b+1) (c+1))):=bR λa o=>by
     by_cases g:a=b
     ·subst g;rw[ew];unfold j3;rw[ew,eG _ _ U]
     ·rw[eG _ _ g,eG _ _ g];unfold j3;rw[eG _ _ U,eG _ _ U]
    dsimp only;rw[aj];have c2:∀v,(j:v<(bk G c).length)->∃d:Nat,(bk G c)[v]=(d:Int)/\d<n:=λv j=>(by obtain⟨d,ci,eq,_⟩:=Do B (List.getElem_mem j);exact⟨d,ci,U⟩);have fp:(bk G c).length<=n:=(by have:=S0 G c;omega);refine ae.aW (P:=λu=>u=(aq (b+1) (j3 (bZ h (b+1) (c+1))),aq (b+1) (λa=>aq n (λw=>r a w||(decide (a=b)&&decide ((w:Int)∈bk G c)))),())) ?_ ?_
    ·refine ae.steps (bk G c).length (λv Y=>Y=((v:Int),aq (b+1) (j3 (bZ h (b+1) (c+1))),aq (b+1) (λa=>aq n (λw=>r a w||(decide (a=b)&&decide ((w:Int)∈(bk G c).take v)))),())) ?_ ?_ ?_
     ·simp
     ·rintro v _ N rfl;dsimp only;refine ae.bs (sS M) ?_;rw[a7,bn (az (U:(v:Int)<((bk G c).length:Int))),bi];refine ae.bs (dy (Nat.lt_succ_self b)) ?_;refine ae.bs (sS M) (ae.bs (bX N) ?_);obtain⟨d,s,am⟩:=c2 v N;rw[s,dw (Nat.lt_succ_self b)];refine ae.bs (y:=d) (by rw[Option.bind_some,bi];exact dy am) ?_;rw[dw (Nat.lt_succ_self b),dw am,fA,Option.map_some,fA,IT,bA U];refine ae.bs rfl (ae.af.2 ?_);congr 3;refine bR λa _=>bR λw _=>?_;unfold yp;rw[List.take_add_one,List.getElem?_eq_getElem N,s];by_cases g:a=b
      ·by_cases ad:w=d
       ·simp[g,ad]
       ·have:¬((w:Int)=(d:Int)):=U;simp[g,ad,this]
      ·simp[g]
     ·rintro _ rfl;dsimp only;refine ae.bs (sS M) ?_;rw[a7,bm (ay (U:¬(((bk G c).length:Nat):Int)<((bk G c).length:Int))),List.take_length];exact ae.af.2 rfl
    ·rintro _ rfl;dsimp only;refine ae.af.2 ⟨b,h,_,O,Q,R,av,?_,rfl⟩;intro a d o s;rw[Bool.or_eq_true,T a d o s];by_cases g:a=b
     ·subst g;rw[ew,ew];simp only[decide_true,Bool.true_and,decide_eq_true_eq];constructor
      ·rintro(⟨k,F,a3,H⟩|j)
       ·exact⟨k,F,U,H⟩
       ·exact⟨c,R,U,j⟩
      ·rintro⟨k,F,a3,H⟩;rcases bb k c with u|u
       ·exact .inl ⟨k,F,u,H⟩
       ·obtain rfl:k=c:=U;exact .inr H
     ·rw[eG _ _ U,eG _ _ U];simp[g]
  ·rintro _ ⟨b,h,r,O,Q,R,av,T,rfl⟩;dsimp only;refine ae.af.2 ⟨b+1,bZ h (b+1) (c+1),r,⟨?_,ew _ _ _,?_,?_⟩,rfl⟩
   ·rw[eG _ _ U];exact O
   ·intro a o;rw[eG _ _ (U:a≠b+1)];by_cases g:a=b
    ·subst g;rw[ew];omega
    ·rw[eG _ _ U];exact Q a U
   ·intro a d o s;rw[eG _ _ (U:a≠b+1)];exact T a d o s
 ·rintro _ ⟨f,i,l,p,rfl⟩;dsimp only;rw[a7,bi,bm (ay (U:¬((n:Int)<(n:Int))))];exact ae.af.2 ⟨f,i,l,p,rfl⟩
end
end
end Go.hT
end
