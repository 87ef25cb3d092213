import Derived.Test.YtckljdhdadiphaaGreatDoorQV
namespace Go.Proofs.YtckljdhdadiphaaGreatDoor
open Go.RowKit
set_option linter.unusedVariables false
set_option linter.unusedSimpArgs false
theorem DH:∀(k:Nat) (s:ah.T) (d:List Int),aI s→d.length+k≤1000→∃(s':ah.T) (d':List Int),ac gm (s,d,(k:Int),())=some (.inl (s',d',()))∧aI s'∧d'.length≤1000
 |0,s,d,hs,hl=>by
  refine⟨s,d, ?_,hs,by omega⟩
  rw[aj]
  simp only[gm,Cc]
 |k+1,s,d,hs,hl=>by
  obtain⟨y,hy,hd,hg⟩:=ay (n:=2) hs
  have hy:aa ((s.1,s.2.1,s.2.2.1,()),(2:Int),())=some y:=hy
  obtain⟨s',d',h1,h2,h3⟩:=DH k (y.2.1.1,y.2.1.2.1,y.2.1.2.2.1,()) (d++ [y.1]) hg (by simp;omega)
  refine⟨s',d', ?_,h2,h3⟩
  rw[aj]
  simp only[gm,Cb,hy,Ca (show k≤1000000 by omega)]
  rw[aC (by simp;omega)]
  exact h1
theorem X1 {s:ah.T}(n:Nat)(hn:n≤500)(hs:aI s):∃y,lw (s,(n:Int),())=some y∧(aI (y.2.1.1,y.2.1.2.1,y.2.1.2.2.1,())∧y.1.length≤100000):=by
 have wn:IntKind.i64.wrap ((n:Int)+1)=(n:Int)+1:=by rw[ai]<;>omega
 obtain⟨v1,e1,d1,g1⟩:=ay (n:=(n:Int)+1) hs
 have e1:aa ((s.1,s.2.1,s.2.2.1,()),(n:Int)+1,())=some v1:=e1
 obtain⟨a,ha,ha2⟩:=cb d1 (by omega)
 obtain⟨s3,t3,e3,g3,l3⟩:=DH a (v1.2.1.1,v1.2.1.2.1,v1.2.1.2.2.1,()) [] g1 (by simp;omega)
 obtain⟨v5,e5,d5,g5⟩:=ay (n:=40) g3
 have e5:aa ((s3.1,s3.2.1,s3.2.2.1,()),(40:Int),())=some v5:=e5
 obtain⟨v6,e6,d6,g6⟩:=ay (n:=2) g5
 obtain⟨v9,e9,d9,g9⟩:=ay (n:=3) g5
 obtain⟨w,w1,w2,_⟩:=pick [(2:Int),(-1:Int)] d6 (by simp) (by simp)
 obtain⟨b,hb,hb2⟩:=cb d9 (by omega)
 have wb:IntKind.i64.wrap ((8192:Int)+(b:Int))=(8192:Int)+(b:Int):=by rw[ai]<;>omega
 have wc:IntKind.i64.wrap ((8192:Int)+(b:Int)-1)=(8191:Int)+(b:Int):=by rw[ai]<;>omega
 have hr:∀ {R:Type} (q:Option R),aH (t3.length+ [w].length) q=q:=fun q=>aC (by simp;omega)
 have hr2:∀ {R:Type} (q:Option R),aH (((8191:Int)+(b:Int)).toNat) q=q:=fun q=>aC (by omega)
 have hc:((0:Int)≤(8191:Int)+(b:Int)∧(8191:Int)+(b:Int)≤(8191:Int)+(b:Int))=True:=eq_true ⟨by omega,by omega⟩
 unfold lw
 simp only[wn,e1,ha,e3,e5,e6,w1,w2,ab,hr,e9,hb,wb,wc,hc,if_true,hr2]
 split
 ·exact⟨_,rfl,g6,by simp;omega⟩
 ·split
  ·exact⟨_,rfl,g9,by simp;omega⟩
  ·exact⟨_,rfl,g5,by show t3.length≤100000;omega⟩
theorem Yt(c:Int)(L:List Int)(hl:L.length≤100)(hv:∀v ∈ L,(0:Int)≤v∧v≤20):∀(k i:Nat) (sum:Int),i+k=L.length→∃o,ac fL (c,L,sum,(i:Int),())=some o∧((∃t:Int,o= .inl (c,L,t,()))∨o= .inr ([],(2:Int),()))
 |0,i,sum,hi=>by
  have hi:i=L.length:=by omega
  subst hi
  refine⟨.inl (c,L,sum,()), ?_,.inl ⟨sum,rfl⟩⟩
  rw[aj]
  simp only[fL,bu]
 |k+1,i,sum,hi=>by
  have h:i<L.length:=by omega
  cases hb:aY L[i] 1 8192 with
  |false=>
   refine⟨.inr ([],(2:Int),()), ?_,.inr rfl⟩
   rw[aj]
   simp only[fL,bj h,au h,ab,gS,hb,Bool.not_false]
  |true=>
   obtain⟨o,h1,h2⟩:=Yt c L hl hv k (i+1) (IntKind.i64.wrap (sum+L[i])) (by omega)
   refine⟨o, ?_,h2⟩
   rw[aj]
   simp only[fL,bj h,au h,ab,gS,hb,Bool.not_true,aL h (show L.length≤1099511627776 by omega)]
   exact h1
theorem WM(L:List Int)(hl:L.length≤100)(hv:∀v ∈ L,(0:Int)≤v∧v≤20):∀(k i:Nat) (c:Int) (out:List Int),i+k=L.length→out.length+20*k≤2000→∃out':List Int,ac gd (c,L,out,(i:Int),())=some (.inl (out',()))∧out'.length≤2000
 |0,i,c,out,hi,ho=>by
  have hi:i=L.length:=by omega
  subst hi
  refine⟨out, ?_,by omega⟩
  rw[aj]
  simp only[gd,bu]
 |k+1,i,c,out,hi,ho=>by
  have h:i<L.length:=by omega
  obtain⟨h0,h20⟩:=hv L[i] (List.getElem_mem h)
  obtain⟨n,hn⟩:∃n:Nat,L[i]=(n:Int):=⟨L[i].toNat,by omega⟩
  have hq:=lD n c (by omega)
  have hle:n≤20:=by omega
  obtain⟨out',h1,h2⟩:=WM L hl hv k (i+1) (IntKind.i64.wrap (1-c)) (out++List.replicate n c) (by omega) (by simp;omega)
  refine⟨out', ?_,h2⟩
  rw[aj]
  simp only[gd,bj h,au h,ab,hn,hq,aL h (show L.length≤1099511627776 by omega)]
  rw[aC (by simp;omega)]
  exact h1
theorem X2(c:Int)(L:List Int)(hl:L.length≤100)(hv:∀v ∈ L,(0:Int)≤v∧v≤20):∃y,vx (c,L,())=some y∧y.1.length≤2000:=by
 obtain⟨o,e1,h1⟩:=Yt c L hl hv L.length 0 0 (by omega)
 have e1:ac fL (c,L,(0:Int),(0:Int),())=some o:=e1
 unfold vx
 simp only[gS,e1]
 split
 ·exact⟨_,rfl,Nat.zero_le _⟩
 ·rcases h1 with⟨t,rfl⟩|rfl
  ·obtain⟨out',h2,h3⟩:=WM L hl hv L.length 0 c [] (by omega) (by simp;omega)
   have h2:ac gd (c,L,[],(0:Int),())=_:=h2
   simp only[h2]
   split
   ·exact⟨_,rfl,Nat.zero_le _⟩
   ·exact⟨_,rfl,h3⟩
  ·exact⟨_,rfl,Nat.zero_le _⟩
theorem Im:∀(k:Nat) (s:ah.T) (L:List Int),aI s→L.length+k≤50→(∀v ∈ L,(0:Int)≤v∧v≤20)→∃(s':ah.T) (L':List Int),ac jG (s,L,(k:Int),())=some (.inl (s',L',()))∧aI s'∧L'.length≤50∧∀v ∈ L',(0:Int)≤v∧v≤20
 |0,s,L,hs,hl,hv=>by
  refine⟨s,L, ?_,hs,by omega,hv⟩
  rw[aj]
  simp only[jG,Cc]
 |k+1,s,L,hs,hl,hv=>by
  obtain⟨y,hy,hd,hg⟩:=ay (n:=9) hs
  have hy:aa ((s.1,s.2.1,s.2.2.1,()),(9:Int),())=some y:=hy
  have hq:=eC hd (by omega)
  have w5:IntKind.i64.wrap ((5:Int)+y.1)=5+y.1:=ai (by omega) (by omega)
  obtain⟨s',L',h1,h2,h3,h4⟩:=Im k (y.2.1.1,y.2.1.2.1,y.2.1.2.2.1,()) (L++ [5+y.1]) hg (by simp;omega) (fun v hm=>by
   rcases List.mem_append.1 hm with hm|hm
   ·exact hv v hm
   ·rw[List.mem_singleton]at hm
    rw[hm]
    omega)
  refine⟨s',L', ?_,h2,h3,h4⟩
  rw[aj]
  simp only[jG,Cb,hy,w5,Ca (show k≤1000000 by omega)]
  rw[aC (by simp;omega)]
  exact h1
theorem aa4 {s:ah.T}(hs:aI s):∃y,s7 (s,())=some y∧(aI (y.2.1.1,y.2.1.2.1,y.2.1.2.2.1,())∧y.1.length≤100000):=by
 obtain⟨v1,e1,d1,g1⟩:=ay (n:=5) hs
 have e1:aa ((s.1,s.2.1,s.2.2.1,()),(5:Int),())=some v1:=e1
 obtain⟨v2,e2,g2,l2⟩:=X1 40 (by omega) g1
 have e2:lw ((v1.2.1.1,v1.2.1.2.1,v1.2.1.2.2.1,()),(40:Int),())=some v2:=e2
 obtain⟨v3,e3,d3,g3⟩:=ay (n:=8) g1
 obtain⟨a,ha,ha2⟩:=cb d3 (by omega)
 obtain⟨s5,L5,e5,g5,l5,r5⟩:=Im a (v3.2.1.1,v3.2.1.2.1,v3.2.1.2.2.1,()) [] g3 (by simp;omega) (fun v hv=>by cases hv)
 obtain⟨v7,e7,d7,g7⟩:=ay (n:=8) g5
 have e7:aa ((s5.1,s5.2.1,s5.2.2.1,()),(8:Int),())=some v7:=e7
 obtain⟨v8,e8,l8⟩:=X2 (IntKind.i64.wrap ((1:Int)-(IntKind.i64.wrap (Int.tdiv v7.1 (7:Int))))) L5 (by omega) r5
 unfold s7
 simp only[e1,e2,e3,ha,e5,e7,e8]
 split
 ·exact⟨_,rfl,g2,l2⟩
 ·exact⟨_,rfl,g7,by show v8.1.length≤100000;omega⟩
theorem Gn(n:Int):∀(k:Nat) (s:ah.T) (out:List Int) (a:Int),out.length+k=8→aI s→∃(s':ah.T) (out':List Int),ac eA (s,n,out,a,())=some (.inl (s',n,out',()))∧aI s'∧out'.length≤8
 |0,s,out,a,ho,hs=>by
  refine⟨s,out, ?_,hs,by omega⟩
  rw[aj]
  simp only[eA,rQ (show ¬(out.length:Int)<8 by omega)]
  by_cases h:a<n
  ·simp only[pe h]
  ·simp only[rQ h]
 |k+1,s,out,a,ho,hs=>by
  by_cases h:a<n
  ·obtain⟨v2,e2,d2,g2⟩:=ay (n:=8) hs
   have e2:aa ((s.1,s.2.1,s.2.2.1,()),(8:Int),())=some v2:=e2
   obtain⟨w,w1,w2,_⟩:=pick [(6:Int),(5:Int),(7:Int),(12:Int),(4:Int),(6:Int),(9:Int),(1:Int)] d2 (by simp) (by simp)
   obtain⟨v5,e5,d5,g5⟩:=ay (n:=4) g2
   obtain⟨s',out',h1,h2,h3⟩:=Gn n k (v5.2.1.1,v5.2.1.2.1,v5.2.1.2.2.1,()) (out++ [a]) (IntKind.i64.wrap ((IntKind.i64.wrap (a+w))+v5.1)) (by simp;omega) g5
   refine⟨s',out', ?_,h2,h3⟩
   rw[aj]
   simp only[eA,pe h,pe (show(out.length:Int)<8 by omega),e2,w1,w2,ab,e5,cE,jI]
   rw[aC (by simp;omega)]
   exact h1
  ·refine⟨s,out, ?_,hs,by omega⟩
   rw[aj]
   simp only[eA,rQ h]
theorem Ta {s:ah.T}(n:Int)(hs:aI s):∃y,jh (s,n,())=some y∧(aI (y.2.1.1,y.2.1.2.1,y.2.1.2.2.1,())∧y.1.length≤100):=by
 obtain⟨v1,e1,d1,g1⟩:=ay (n:=9) hs
 have e1:aa ((s.1,s.2.1,s.2.2.1,()),(9:Int),())=some v1:=e1
 obtain⟨s6,o6,e6,g6,l6⟩:=Gn n 8 (v1.2.1.1,v1.2.1.2.1,v1.2.1.2.2.1,()) [] v1.1 rfl g1
 obtain⟨v8,e8,d8,g8⟩:=ay (n:=30) g6
 have e8:aa ((s6.1,s6.2.1,s6.2.2.1,()),(30:Int),())=some v8:=e8
 have hr:∀ {R:Type} (u:Int) (q:Option R),aH (o6.length+ [u].length) q=q:=fun u q=>aC (by simp;omega)
 unfold jh
 simp only[e1,e6,e8,hr]
 split
 ·exact⟨_,rfl,g8,by simp;omega⟩
 ·split
  ·exact⟨_,rfl,g8,by simp;omega⟩
  ·exact⟨_,rfl,g8,by show o6.length≤100;omega⟩
theorem OP(I:List Int)(hI:I.length≤1000)(m:Nat)(hv:∀v ∈ I,(0:Int)≤v∧v<(m:Int)):∀(k i:Nat) (l:List Int),i+k=I.length→l.length=m→∃l':List Int,ac iJ (I,l,(i:Int),())=some (.inl (l',()))∧l'.length=m
 |0,i,l,hi,hl=>by
  have hi:i=I.length:=by omega
  subst hi
  refine⟨l, ?_,hl⟩
  rw[aj]
  simp only[iJ,bu]
 |k+1,i,l,hi,hl=>by
  have h:i<I.length:=by omega
  obtain⟨h0,h2⟩:=hv I[i] (List.getElem_mem h)
  obtain⟨n,hn⟩:∃n:Nat,I[i]=(n:Int):=⟨I[i].toNat,by omega⟩
  have hnl:n<l.length:=by omega
  have hg:l[((n:Int)).toNat]? =some l[n]:=List.getElem?_eq_getElem hnl
  obtain⟨l',h3,h4⟩:=OP I hI m hv k (i+1) (l.set ((n:Int)).toNat (IntKind.i64.wrap ((1:Int)-l[n]))) (by omega) (by rw[List.length_set];exact hl)
  refine⟨l', ?_,h4⟩
  rw[aj]
  simp only[iJ,bj h,au h,ab,hn,au hnl,hg,aL h (show I.length≤1099511627776 by omega)]
  exact h3
theorem X3 {I:List Int}{n:Nat}(h:ol I n=true):∀v ∈ I,(0:Int)≤v∧v<(n:Int):=by
 intro v hv
 obtain⟨i,hi,e⟩:=List.getElem_of_mem hv
 unfold ol at h
 rw[List.all_eq_true]at h
 have:=h i (List.mem_range.2 hi)
 unfold tq at this
 rw[List.getElem?_eq_getElem hi]at this
 simp only[Bool.and_eq_true]at this
 have:=bc.1 this.1
 rw[e]at this
 omega
theorem X4(l I:List Int)(hl:l.length≤1000000)(hI:I.length≤1000):∃y,nc (l,I,())=some y∧y.1.length≤l.length:=by
 have h1:=tk l (by omega)
 have h2:=TJ I l.length (by omega) (by omega)
 have e0:nc (l,I,())=match iC (l,())with
  |none=>none
  |some v1=>match(!v1.1)with
   |true=>some ([],(1:Int),())
   |false=>match mY (I,(l.length:Int),())with
    |none=>none
    |some v2=>match(!v2.1)with
     |true=>some ([],(2:Int),())
     |false=>match tc (l,I,())with
      |none=>none
      |some v3=>some (v3.1,(0:Int),()):=rfl
 rw[e0,h1]
 simp only[h2]
 split
 ·exact⟨_,rfl,Nat.zero_le _⟩
 ·cases hr:ol I l.length with
  |false=>exact⟨_,rfl,Nat.zero_le _⟩
  |true=>
   obtain⟨l',h3,h4⟩:=OP I hI l.length (X3 hr) I.length 0 l (by omega) rfl
   have h3:ac iJ (I,l,(0:Int),())=_:=h3
   have h5:tc (l,I,())=some (l',()):=by
    unfold tc
    simp only[List.nil_append,h3]
    rw[aC (by simp;omega)]
   simp only[Bool.not_true,h5]
   exact⟨_,rfl,by show l'.length≤l.length;omega⟩
theorem aa5 {s:ah.T}(hs:aI s):∃y,ku (s,())=some y∧aI (y.2.1.1,y.2.1.2.1,y.2.1.2.2.1,()):=by
 obtain⟨v1,e1,d1,g1⟩:=ay (n:=12) hs
 have e1:aa ((s.1,s.2.1,s.2.2.1,()),(12:Int),())=some v1:=e1
 obtain⟨v2,e2,d2,g2⟩:=ay (n:=4) g1
 obtain⟨w,w1,w2,_⟩:=pick [(2:Int),(3:Int),(15:Int),(16:Int)] d2 (by simp) (by simp)
 obtain⟨v5,e5,d5,g5⟩:=ay (n:=13) g1
 unfold ku
 simp only[e1,e2,w1,w2,ab,e5]
 split
 ·exact⟨_,rfl,g2⟩
 ·exact⟨_,rfl,g5⟩
theorem WN:∀l:List Int,(l.flatMap fun b=>[1,0]++bE b 8).length=10*l.length
 | []=>rfl
 |v::l=>by
  rw[List.flatMap_cons,List.length_append,List.length_cons,WN l,List.length_append,dZ]
  show 2+8+_=_
  omega
theorem Zr(l:List Int)(p:Nat)(hp:p≤100)(hl:l.length≤1024)(hv:∀v ∈ l,0≤v∧v≤255):∃c:List Int,iW (l,(p:Int),())=some (c,())∧1≤c.length∧∀b ∈ c,b=0∨b=1:=by
 have e:=RJ (B:=dr) l (fun s i=>(l,s,(i:Int),())) (fun b=>[1,0]++bE b 8) (p+1) 10 (fun v _=>by simp[dZ]) (fun s=>.inl (s,())) (fun s=>by simp only[dr,bu]) (fun s i h hs=>by
  have hd:List.drop i (List.take (i+1) l)= [l[i]]:=by
   rw[List.drop_take,Nat.add_sub_cancel_left,List.drop_eq_getElem_cons h]
   rfl
  have hb:=BW [l[i]] (by simp)
  have hb1:dG [l[i]]=bE l[i] 8:=by simp[dG]
  have hbd:aM l.length (some (.dat (.int .i64) ((i:Nat):Int))) (some (.dat (.int .i64) (((i+1:Nat):Int))))=some (i,i+1):=by
   unfold aM
   simp[jJ,jl]
   omega
  simp only[dr,bj h,aL h (show l.length≤1099511627776 by omega)]
  rw[aC (by simp;omega),hbd]
  simp only[ab,hd,hb,hb1]
  rw[aC (by simp[dZ];omega)]
  simp only[List.append_assoc]) (List.replicate p (0:Int)++ [1]) (by simp)
 have e:ac dr (l,(List.replicate ((p:Int)).toNat (0:Int))++ [1],(0:Int),())=_:=e
 have hlen:=WN l
 unfold iW
 simp only[e]
 rw[if_pos (show(0:Int)≤(p:Int)∧(p:Int)≤(p:Int) from⟨by omega,by omega⟩),aC (by simp;omega),aC (by simp;omega),aC (by simp only[List.length_append,hlen];simp;omega)]
 refine⟨_,rfl,by simp;omega,fun b hb=> ?_⟩
 simp only[List.mem_append,List.mem_replicate,List.mem_flatMap,List.mem_cons,List.not_mem_nil,or_false]at hb
 rcases hb with((⟨_,rfl⟩|rfl)|⟨v,hm,(rfl|rfl)|hb⟩)|(rfl|rfl)
 ·exact .inl rfl
 ·exact .inr rfl
 ·exact .inr rfl
 ·exact .inl rfl
 ·obtain⟨h0,h1⟩:=hv v hm
  obtain⟨n,rfl⟩:=Int.eq_ofNat_of_zero_le h0
  exact Ga n (by omega) 8 b hb
 ·exact .inl rfl
 ·exact .inr rfl
theorem cellsOf(l:List Int)(p:Int)(hl:l.length≤1000000):∃y,yw (l,p,())=some y∧(y.2.1=0→1≤y.1.length∧∀b ∈ y.1,b=0∨b=1):=by
 have h1:=TG (l,()) (by show l.length≤_;omega)
 have e0:yw (l,p,())=match mq (l,())with
  |none=>none
  |some v1=>match(!v1.1)with
   |true=>some ([],(1:Int),())
   |false=>match fx (p,())with
    |none=>none
    |some v2=>match(!v2.1)with
     |true=>some ([],(2:Int),())
     |false=>match(decide ((IntKind.i64.wrap ((IntKind.i64.wrap (p+(3:Int)))+(IntKind.i64.wrap ((10:Int)*(l.length:Int)))))>(8192:Int)))with
      |true=>some ([],(3:Int),())
      |false=>match iW (l,p,())with
       |none=>none
       |some v3=>some (v3.1,(0:Int),()):=rfl
 have h2:fx (p,())=some (aY p 3 15,()):=by
  unfold fx
  simp only[gS]
 rw[e0,h1]
 simp only[h2]
 cases hb:dW l with
 |false=>exact⟨_,rfl,fun h=>absurd h (by decide)⟩
 |true=>
  cases hp:aY p 3 15 with
  |false=>exact⟨_,rfl,fun h=>absurd h (by decide)⟩
  |true=>
   have hp:=bc.1 hp
   obtain⟨n,rfl⟩:∃n:Nat,p=(n:Int):=⟨p.toNat,by omega⟩
   have hb2:=hb
   unfold dW at hb2
   simp only[Bool.and_eq_true,decide_eq_true_eq,List.all_eq_true]at hb2
   have hl2:l.length≤1024:=by
    have:=hb2.1
    omega
   have hv:∀v ∈ l,0≤v∧v≤255:=fun v hm=>bc.1 (hb2.2 v hm)
   by_cases hs:(IntKind.i64.wrap ((IntKind.i64.wrap ((n:Int)+(3:Int)))+(IntKind.i64.wrap ((10:Int)*(l.length:Int)))))>(8192:Int)
   ·simp only[Bool.not_true,decide_eq_true hs]
    exact⟨_,rfl,fun h=>absurd h (by decide)⟩
   ·have w1:IntKind.i64.wrap ((n:Int)+(3:Int))=(n:Int)+3:=by rw[ai]<;>omega
    have w2:IntKind.i64.wrap ((10:Int)*(l.length:Int))=10*(l.length:Int):=by rw[ai]<;>omega
    have w3:IntKind.i64.wrap ((n:Int)+3+10*(l.length:Int))=(n:Int)+3+10*(l.length:Int):=by rw[ai]<;>omega
    have hs2:¬(n:Int)+3+10*(l.length:Int)>8192:=by
     rw[w1,w2,w3]at hs
     exact hs
    obtain⟨c,h3,h4⟩:=Zr l n (by omega) hl2 hv
    simp only[Bool.not_true,decide_eq_false hs,h3]
    exact⟨_,rfl,fun _=>h4⟩
theorem aa6(c:List Int)(a b:Nat)(ha:a≤100):∀(k i:Nat) (l:List Int),i+k=a→l.length=i→∃l':List Int,ac iI (c,(a:Int),(b:Int),l,(i:Int),())=some (.inl (c,(b:Int),l',()))∧l'.length=a
 |0,i,l,hi,hl=>by
  have hi:i=a:=by omega
  subst hi
  refine⟨l, ?_,hl⟩
  rw[aj]
  simp only[iI,bu]
 |k+1,i,l,hi,hl=>by
  have h:i<a:=by omega
  obtain⟨l',h1,h2⟩:=aa6 c a b ha k (i+1) (l++ [1]) (by omega) (by simp;omega)
  refine⟨l', ?_,h2⟩
  rw[aj]
  simp only[iI,bj h,aL h (show a≤1099511627776 by omega)]
  rw[aC (by simp;omega)]
  exact h1
theorem Yu(b:Nat)(hb:b≤100):∀(k i:Nat) (l:List Int),i+k=b→l.length+k≤1000000→∃l':List Int,ac gO ((b:Int),l,(i:Int),())=some (.inl (l',()))∧l'.length=l.length+k
 |0,i,l,hi,hl=>by
  have hi:i=b:=by omega
  subst hi
  refine⟨l, ?_,rfl⟩
  rw[aj]
  simp only[gO,bu]
 |k+1,i,l,hi,hl=>by
  have h:i<b:=by omega
  obtain⟨l',h1,h2⟩:=Yu b hb k (i+1) (l++ [1]) (by omega) (by simp;omega)
  refine⟨l', ?_,by rw[h2];simp;omega⟩
  rw[aj]
  simp only[gO,bj h,aL h (show b≤1099511627776 by omega)]
  rw[aC (by simp;omega)]
  exact h1
theorem Zs(c:List Int)(a b:Nat)(ha:a≤100)(hb:b≤100)(hc:c.length≤1000)(h1:1≤c.length)(hv:∀b ∈ c,b=0∨b=1):∃y,yz (c,(a:Int),(b:Int),())=some y∧(1≤y.1.length∧y.1.length≤2000):=by
 have hbit:=tk c (by omega)
 rw[XQ hv (by omega)]at hbit
 have ia:aY (a:Int) 0 8192=true:=bc.2 (by omega)
 have ib:aY (b:Int) 0 8192=true:=bc.2 (by omega)
 have w1:IntKind.i64.wrap ((c.length:Int)+(a:Int))=(c.length:Int)+(a:Int):=by rw[ai]<;>omega
 have w2:IntKind.i64.wrap ((c.length:Int)+(a:Int)+(b:Int))=(c.length:Int)+(a:Int)+(b:Int):=by rw[ai]<;>omega
 obtain⟨l4,h4,n4⟩:=aa6 c a b ha a 0 [] (by omega) rfl
 have h4:ac iI (c,(a:Int),(b:Int),[],(0:Int),())=_:=h4
 obtain⟨l6,h6,n6⟩:=Yu b hb b 0 (l4++c) (by omega) (by simp;omega)
 have h6:ac gO ((b:Int),l4++c,(0:Int),())=_:=h6
 unfold yz
 simp only[hbit,gS,ia,ib,w1,w2,Bool.not_true,decide_eq_false (show ¬(c.length:Int)+(a:Int)+(b:Int)>8192 by omega),h4,h6]
 rw[List.length_append]at n6
 rw[aC (by omega)]
 exact⟨_,rfl,by show 1≤l6.length;omega,by show l6.length≤2000;omega⟩
theorem R1(l w:List Int)(j n:Nat)(hj:j<l.length)(hj2:j<w.length)(hw:w[j]=(n:Int))(hn:n≤100):∀(k i:Nat) (acc:List Int),i+k=n→acc.length+k≤1000000→ac cI (l,w,acc,(j:Int),(i:Int),())=some (.inl (l,w,acc++List.replicate k l[j],(j:Int),()))
 |0,i,acc,hi,_=>by
  have hi:i=n:=by omega
  subst hi
  rw[aj]
  simp only[cI,au hj2,ab,hw,bu,List.replicate_zero,List.append_nil]
 |k+1,i,acc,hi,h=>by
  have hin:i<n:=by omega
  rw[aj]
  simp only[cI,au hj2,au hj,ab,hw,bj hin,aL hin (show n≤1099511627776 by omega)]
  rw[aC (by show acc.length+1≤_;omega)]
  simp only
  rw[R1 l w j n hj hj2 hw hn k (i+1) (acc++ [l[j]]) (by omega) (by simp;omega),List.append_assoc,List.singleton_append,List.replicate_succ]
def vR(l w:List Int):Prop:=w.length=l.length∧∀v ∈ w,(0:Int)≤v∧v≤20
theorem R2(l w:List Int)(hl:l.length≤2000)(hw:vR l w):∀(k i:Nat) (acc:List Int),i+k=l.length→acc.length≤20*i→∃o:List Int,ac cJ (l,w,acc,(i:Int),())=some (.inl (o,()))∧o.length≤20*l.length
 |0,i,acc,hi,ha=>by
  have hi:i=l.length:=by omega
  subst hi
  refine⟨acc, ?_,ha⟩
  rw[aj]
  simp only[cJ,bu]
 |k+1,i,acc,hi,ha=>by
  have h:i<l.length:=by omega
  have h2:i<w.length:=by rw[hw.1];exact h
  obtain⟨h0,h20⟩:=hw.2 w[i] (List.getElem_mem h2)
  obtain⟨n,hn⟩:∃n:Nat,w[i]=(n:Int):=⟨w[i].toNat,by omega⟩
  have hn20:n≤20:=by omega
  have e6:ac cI (l,w,acc,(i:Int),(0:Int),())=_:=R1 l w i n h h2 hn (by omega) n 0 acc (by omega) (by omega)
  obtain⟨o,h3,h4⟩:=R2 l w hl hw k (i+1) (acc++List.replicate n l[i]) (by omega) (by simp;omega)
  refine⟨o, ?_,h4⟩
  rw[aj]
  simp only[cJ,bj h,e6,aL h (show l.length≤1099511627776 by omega)]
  exact h3
theorem NY(l w:List Int)(hl:l.length≤2000)(hw:vR l w):∃o:List Int,js (l,w,())=some (o,())∧o.length≤100000:=by
 obtain⟨o,h1,h2⟩:=R2 l w hl hw l.length 0 [] (by omega) (Nat.zero_le _)
 have h1:ac cJ (l,w,[],(0:Int),())=_:=h1
 refine⟨o, ?_,by omega⟩
 unfold js
 simp only[h1]
theorem Gp(l:List Int):vR l (List.replicate l.length 8):=⟨List.length_replicate,fun v hv=>by rw[List.eq_of_mem_replicate hv];omega⟩
theorem T1(l:List Int)(hl:l.length≤2000):∃o:List Int,dI (l,())=some (o,())∧o.length≤100000:=by
 have hq:cB ((l.length:Int),(8:Int),())=some (List.replicate l.length (8:Int),()):=lD l.length 8 (by omega)
 obtain⟨o,h1,h2⟩:=NY l _ hl (Gp l)
 refine⟨o, ?_,h2⟩
 unfold dI
 simp only[hq,h1]
theorem R3(l:List Int)(h1:1≤l.length)(hl:l.length≤2000):∀(k:Nat) (s:ah.T) (w:List Int),k≤100→aI s→vR l w→∃(s':ah.T) (w':List Int),ac jH (s,l,w,(k:Int),())=some (.inl (s',l,w',()))∧aI s'∧vR l w'
 |0,s,w,hk,hs,hw=>by
  refine⟨s,w, ?_,hs,hw⟩
  rw[aj]
  simp only[jH,Cc]
 |k+1,s,w,hk,hs,hw=>by
  obtain⟨y,hy,hd,hg⟩:=ay (n:=(w.length:Int)) hs
  have hy:aa ((s.1,s.2.1,s.2.2.1,()),(w.length:Int),())=some y:=hy
  obtain⟨z,hz,hd2,hg2⟩:=ay (n:=3) hg
  have q:=eC hd2 (by omega)
  obtain⟨u,u1,u2,_⟩:=pick w hd (Int.le_refl _) (by rw[hw.1];exact h1)
  have w7:IntKind.i64.wrap ((7:Int)+z.1)=7+z.1:=ai (by omega) (by omega)
  have hw2:vR l (w.set y.1.toNat (7+z.1)):=⟨by rw[List.length_set];exact hw.1,fun v hv=>by
   rcases List.mem_or_eq_of_mem_set hv with hv|hv
   ·exact hw.2 v hv
   ·rw[hv];omega⟩
  obtain⟨s',w',h3,h4,h5⟩:=R3 l h1 hl k (z.2.1.1,z.2.1.2.1,z.2.1.2.2.1,()) (w.set y.1.toNat (7+z.1)) (by omega) hg2 hw2
  refine⟨s',w', ?_,h4,h5⟩
  rw[aj]
  simp only[jH,Cb,hy,hz,u1,u2,ab,w7,Ca (show k≤1000000 by omega)]
  exact h3
theorem OQ(n:Nat)(h1:1≤n):∀(k:Nat) (s:ah.T) (l:List Int),k≤100→aI s→l.length=n→∃(s':ah.T) (l':List Int),ac fM (s,l,(k:Int),())=some (.inl (s',l',()))∧aI s'∧l'.length=n
 |0,s,l,hk,hs,hl=>by
  refine⟨s,l, ?_,hs,hl⟩
  rw[aj]
  simp only[fM,Cc]
 |k+1,s,l,hk,hs,hl=>by
  obtain⟨y,hy,hd,hg⟩:=ay (n:=(l.length:Int)) hs
  have hy:aa ((s.1,s.2.1,s.2.2.1,()),(l.length:Int),())=some y:=hy
  obtain⟨u,u1,u2,_⟩:=pick l hd (Int.le_refl _) (by omega)
  obtain⟨s',l',h3,h4,h5⟩:=OQ n h1 k (y.2.1.1,y.2.1.2.1,y.2.1.2.2.1,()) (l.set y.1.toNat (IntKind.i64.wrap ((1:Int)-u))) (by omega) hg (by rw[List.length_set];exact hl)
  refine⟨s',l', ?_,h4,h5⟩
  rw[aj]
  simp only[fM,Cb,hy,u1,u2,ab,Ca (show k≤1000000 by omega)]
  exact h3
theorem WO {s:ah.T}(P X:List Int)(hs:aI s)(h1:1≤P.length)(hP:P.length≤2000)(hX:X.length≤100000):
  ∃(v19:Int×ah.T×Unit),aa (s,(5:Int),())=some v19∧aI (v19.2.1.1,v19.2.1.2.1,v19.2.1.2.2.1,())∧
  (∃v20 v21,jh ((v19.2.1.1,v19.2.1.2.1,v19.2.1.2.2.1,()),(X.length:Int),())=some v20∧nc (X,v20.1,())=some v21∧aI (v20.2.1.1,v20.2.1.2.1,v20.2.1.2.2.1,())∧v21.1.length≤100000)∧
  (∃v22,aa ((v19.2.1.1,v19.2.1.2.1,v19.2.1.2.2.1,()),(X.length:Int),())=some v22∧aI (v22.2.1.1,v22.2.1.2.1,v22.2.1.2.2.1,())∧∃k:Nat,aM X.length none (some (.dat (.int .i64) v22.1))=some (0,k))∧
  (∃v24 s30 P30 o,aa ((v19.2.1.1,v19.2.1.2.1,v19.2.1.2.2.1,()),(3:Int),())=some v24∧ac fM ((v24.2.1.1,v24.2.1.2.1,v24.2.1.2.2.1,()),P,v24.1,())=some (.inl (s30,P30,()))∧dI (P30,())=some (o,())∧aI s30∧o.length≤100000):=by
 obtain⟨v19,e19,d19,g19⟩:=ay (n:=5) hs
 obtain⟨v20,e20,g20,l20⟩:=Ta (X.length:Int) g19
 obtain⟨v21,e21,l21⟩:=X4 X v20.1 (by omega) (by omega)
 obtain⟨v22,e22,d22,g22⟩:=ay (n:=(X.length:Int)) g19
 obtain⟨v24,e24,d24,g24⟩:=ay (n:=3) g19
 obtain⟨a,ha,ha2⟩:=cb d24 (by omega)
 obtain⟨s30,P30,e30,g30,l30⟩:=OQ P.length h1 a (v24.2.1.1,v24.2.1.2.1,v24.2.1.2.2.1,()) P (by omega) g24 rfl
 obtain⟨o,eo,lo⟩:=T1 P30 (by omega)
 have hk:(v22.1.toNat:Int)=v22.1∧v22.1.toNat≤X.length:=by
  obtain⟨h0,h⟩:=d22
  omega
 exact⟨v19,e19,g19,⟨v20,v21,e20,e21,g20,by omega⟩,⟨v22,e22,g22,v22.1.toNat,NT _ _ _ hk.1.symm hk.2⟩,⟨v24,s30,P30,o,e24,by rw[ha];exact e30,eo,g30,lo⟩⟩
theorem WP {s:ah.T}(hs:aI s):∃y,mE (s,())=some y∧(aI (y.2.1.1,y.2.1.2.1,y.2.1.2.2.1,())∧y.1.length≤100000):=by
 obtain⟨v1,e1,g1,l1⟩:=OM 4 (by omega) hs
 have e1:gL ((s.1,s.2.1,s.2.2.1,()),(4:Int),())=some v1:=e1
 obtain⟨v2,e2,g2⟩:=aa5 g1
 obtain⟨v3,e3,l3⟩:=cellsOf v1.1 v2.1 (by omega)
 obtain⟨v4,e4,g4,l4⟩:=aa4 g2
 obtain⟨v6,e6,d6,g6⟩:=ay (n:=4) g2
 obtain⟨a,ha,ha2⟩:=cb d6 (by omega)
 obtain⟨v7,e7,d7,g7⟩:=ay (n:=4) g6
 obtain⟨b,hb,hb2⟩:=cb d7 (by omega)
 unfold mE
 simp only[e1,e2,e3,e4]
 by_cases h3:v3.2.1=0
 rotate_left
 ·have hn:(v3.2.1 != (0:Int))=true:=by simp[h3]
  simp only[hn]
  exact⟨_,rfl,g4,l4⟩
 ·have hn:(v3.2.1 != (0:Int))=false:=by simp[h3]
  simp only[hn]
  by_cases h6:(v3.1.length:Int)>600
  ·simp only[decide_eq_true h6]
   exact⟨_,rfl,g4,l4⟩
  ·obtain⟨v8,e8,hp8,l8⟩:=Zs v3.1 a b (by omega) (by omega) (by omega) (l3 h3).1 (l3 h3).2
   have hq:=lD v8.1.length 8 (by omega)
   obtain⟨v10,e10,d10,g10⟩:=ay (n:=2) g7
   obtain⟨v11,e11,d11,g11⟩:=ay (n:=4) g10
   obtain⟨c,hc,hc2⟩:=cb d11 (by omega)
   simp only[decide_eq_false h6,e6,ha,e7,hb,e8,hq,e10,e11,hc]
   obtain⟨s16,w16,e16,g16,k16⟩:=R3 v8.1 hp8 l8 c (v11.2.1.1,v11.2.1.2.1,v11.2.1.2.2.1,()) (List.replicate v8.1.length 8) (by omega) g11 (Gp v8.1)
   obtain⟨X,eX,lX⟩:=NY v8.1 w16 l8 k16
   obtain⟨Y,eY,lY⟩:=NY v8.1 _ l8 (Gp v8.1)
   obtain⟨v19,e19,g19,⟨v20,v21,e20,e21,g20,l21⟩,⟨v22,e22,g22,m,em⟩,⟨v24,s30,P30,o,e24,e30,eo,g30,lo⟩⟩:=WO v8.1 X g16 hp8 l8 lX
   have e19:aa ((s16.1,s16.2.1,s16.2.2.1,()),(5:Int),())=some v19:=e19
   obtain⟨t19,f19,k19,⟨t20,t21,f20,f21,k20,r21⟩,⟨t22,f22,k22,m',em'⟩,⟨t24,u30,Q30,o',f24,f30,fo,k30,ro⟩⟩:=WO v8.1 Y g10 hp8 l8 lY
   simp only[e16,eX,e19,e20,e21,e22,em,e24,e30,eo,eY,f19,f20,f21,f22,em',f24,f30,fo,ab]
   have cut:∀(Z:List Int) (k:Nat),Z.length≤100000→(List.drop 0 (List.take k Z)).length≤100000:=fun Z k h=>by simp;omega
   split
   ·split
    ·exact⟨_,rfl,g20,l21⟩
    ·split
     ·exact⟨_,rfl,g22,cut X m lX⟩
     ·split
      ·exact⟨_,rfl,cM g30,lo⟩
      ·exact⟨_,rfl,g19,lX⟩
   ·split
    ·exact⟨_,rfl,k20,r21⟩
    ·split
     ·exact⟨_,rfl,k22,cut Y m' lY⟩
     ·split
      ·exact⟨_,rfl,cM k30,ro⟩
      ·exact⟨_,rfl,k19,lY⟩
theorem OS(z:ar.T)(t:ak.T)(m:ar.T)(x:ak.T)(n:Nat)(h1:1≤n):∀(k:Nat) (s:ah.T) (l:List Int),k≤100→aI s→l.length=n→∃(s':ah.T) (l':List Int),ac ji (s,z,t,m,x,l,(k:Int),())=some (.inl (s',z,t,m,x,l',()))∧aI s'∧l'.length=n
 |0,s,l,hk,hs,hl=>by
  refine⟨s,l, ?_,hs,hl⟩
  rw[aj]
  simp only[ji,Cc]
 |k+1,s,l,hk,hs,hl=>by
  obtain⟨y,hy,hd,hg⟩:=ay (n:=(l.length:Int)) hs
  have hy:aa ((s.1,s.2.1,s.2.2.1,()),(l.length:Int),())=some y:=hy
  obtain⟨u,u1,u2,_⟩:=pick l hd (Int.le_refl _) (by omega)
  obtain⟨s',l',h3,h4,h5⟩:=OS z t m x n h1 k (y.2.1.1,y.2.1.2.1,y.2.1.2.2.1,()) (l.set y.1.toNat (IntKind.i64.wrap ((1:Int)-u))) (by omega) hg (by rw[List.length_set];exact hl)
  refine⟨s',l', ?_,h4,h5⟩
  rw[aj]
  simp only[ji,Cb,hy,u1,u2,ab,Ca (show k≤1000000 by omega)]
  exact h3
theorem R4(l:List Int)(s:List bl.T)(hl:l.length≤1000000)(hs:s.length≤1000000):∃y,iE (l,s,())=some y∧y.1.length≤100000:=by
 have h1:=tk l (by omega)
 have h2:=Ws s (by omega)
 have e0:iE (l,s,())=match iC (l,())with
  |none=>none
  |some v1=>match(!v1.1)with
   |true=>some ([],(1:Int),())
   |false=>match qr (s,())with
    |none=>none
    |some v2=>match(!v2.1)with
     |true=>some ([],(2:Int),())
     |false=>match qt (l,s,())with
      |none=>none
      |some v3=>some (v3.1,(0:Int),()):=rfl
 rw[e0,h1]
 simp only[h2]
 cases hb:bJ l with
 |false=>exact⟨_,rfl,Nat.zero_le _⟩
 |true=>
  cases hc:vP s with
  |false=>exact⟨_,rfl,Nat.zero_le _⟩
  |true=>
   have h3:=XS l (cK hb) s hc
   have h4:=U1 s l (cK hb)
   simp only[Bool.not_true,h3]
   exact⟨_,rfl,by show(GN l s).length≤100000;omega⟩
theorem WQ {s:ah.T}(hs:aI s):∃y,mH (s,())=some y∧(aI (y.2.2.2.1.1,y.2.2.2.1.2.1,y.2.2.2.1.2.2.1,())∧xB y.1∧y.2.2.1.length≤100000):=by
 obtain⟨v1,e1,g1,hS,hF⟩:=aa1 hs
 have e1:sY ((s.1,s.2.1,s.2.2.1,()),())=some v1:=e1
 have hz:=mN hS
 have e2:lu ((v1.1.1,v1.1.2.1,v1.1.2.2.1,v1.1.2.2.2.1,()),(v1.2.1.1,v1.2.1.2.1,v1.2.1.2.2.1,v1.2.1.2.2.2.1,v1.2.1.2.2.2.2.1,()),(v1.2.2.1.1,v1.2.2.1.2.1,(v1.2.2.1.2.2.1.1,v1.2.2.1.2.2.1.2.1,v1.2.2.1.2.2.1.2.2.1,v1.2.2.1.2.2.1.2.2.2.1,v1.2.2.1.2.2.1.2.2.2.2.1,()),v1.2.2.1.2.2.2.1,()),())=_:=Zl v1.1 v1.2.1 v1.2.2.1 hz (by omega)
 have g1:=cM g1
 obtain⟨v3,e3,g3,l3⟩:=WP g1
 obtain⟨v4,e4,d4,g4⟩:=ay (n:=8) g1
 unfold mH
 simp only[e1,e2]
 by_cases h:dX v1.1 v1.2.1 v1.2.2.1=0
 rotate_left
 ·have hn:(dX v1.1 v1.2.1 v1.2.2.1 != (0:Int))=true:=by simp[h]
  simp only[if_neg h,hn,e3,cE,jI]
  exact⟨_,rfl,g3,hS,l3⟩
 ·have e11:kY ((v1.1.1,v1.1.2.1,v1.1.2.2.1,v1.1.2.2.2.1,()),(v1.2.1.1,v1.2.1.2.1,v1.2.1.2.2.1,v1.2.1.2.2.2.1,v1.2.1.2.2.2.2.1,()),(v1.2.2.1.1,v1.2.2.1.2.1,(v1.2.2.1.2.2.1.1,v1.2.2.1.2.2.1.2.1,v1.2.2.1.2.2.1.2.2.1,v1.2.2.1.2.2.1.2.2.2.1,v1.2.2.1.2.2.1.2.2.2.2.1,()),v1.2.2.1.2.2.2.1,()),())=_:=Ig v1.1 v1.2.1 v1.2.2.1 hz h
  obtain⟨c1,c2⟩:=RM h
  have c3:1≤(mM v1.1 v1.2.1 v1.2.2.1).length:=by
   unfold mM
   simp
  have hX:(ko (mM v1.1 v1.2.1 v1.2.2.1)).length≤8192:=by rw[S7];omega
  generalize mM v1.1 v1.2.1 v1.2.2.1=C at e11 c1 c2 c3 hX ⊢
  generalize ko C=X at hX ⊢
  obtain⟨v5,e5,g5,l5⟩:=R0 (X.length:Int) g4
  obtain⟨v6,e6,l6⟩:=R4 X v5.1 (by omega) (by omega)
  obtain⟨v7,e7,g7,l7⟩:=aa3 X hX g4
  obtain⟨v8,e8,l8⟩:=R4 X v7.1 (by omega) (by omega)
  obtain⟨v12,e12,d12,g12⟩:=ay (n:=3) g4
  obtain⟨a,ha,ha2⟩:=cb d12 (by omega)
  have wa:IntKind.i64.wrap ((1:Int)+(a:Int))=((a+1:Nat):Int):=by rw[ai]<;>omega
  obtain⟨s18,C18,e18,g18,l18⟩:=OS ((0:Int),[],[],[],()) ((0:Int),(0:Int),(0:Int),(0:Int),(0:Int),()) (v1.1.1,v1.1.2.1,v1.1.2.2.1,v1.1.2.2.2.1,()) (v1.2.1.1,v1.2.1.2.1,v1.2.1.2.2.1,v1.2.1.2.2.2.1,v1.2.1.2.2.2.2.1,()) C.length c3 (a+1) (v12.2.1.1,v12.2.1.2.1,v12.2.1.2.2.1,()) C (by omega) g12 rfl
  obtain⟨o,eo,lo⟩:=T1 C18 (by omega)
  obtain⟨v22,e22,d22,g22⟩:=ay (n:=2) g4
  have e23:=lD X.length 1 (by omega)
  simp only[if_pos h,show((0:Int) != 0)=false from rfl,e4,e5,e6,e7,e8,e11,e12,ha,wa,e18,eo,e22,e23,cE,jI]
  split
  ·exact⟨_,rfl,g5,hS,l6⟩
  ·split
   ·exact⟨_,rfl,g7,hS,l8⟩
   ·split
    ·exact⟨_,rfl,g7,hS,l8⟩
    ·split
     ·exact⟨_,rfl,cM g18,hS,lo⟩
     ·split
      ·exact⟨_,rfl,g22,hS,by show X.length≤100000;omega⟩
      ·split
       ·exact⟨_,rfl,g4,hS,by show(List.replicate X.length (1:Int)).length≤100000;rw[List.length_replicate];omega⟩
       ·exact⟨_,rfl,g4,hS,by show X.length≤100000;omega⟩
theorem X5 {l:List Int}(hl:l.length≤4096)(hb:∀b ∈ l,(0:Int)≤b∧b≤255):∃(m:ar.T) (st:ak.T) (X:List Int) (s:ah.T),ge (l,())=some (m,st,X,())∧eM m∧X.length≤100000:=by
 obtain⟨s,h1,hs⟩:=TU l hl hb
 obtain⟨v,h2,g2,hS,hX⟩:=WQ hs
 have h2:mH ((s.1,s.2.1,s.2.2.1,()),())=some v:=h2
 refine⟨v.1,v.2.1,v.2.2.1,s, ?_,mN hS,hX⟩
 unfold ge
 simp only[h1,h2]
theorem X6 {l:List Int}(hl:l.length≤4096)(hb:∀b ∈ l,(0:Int)≤b∧b≤255):∃(m:ar.T) (st:ak.T) (X Y:List Int),iP (l,())=some (m,st,X,Y,())∧eM m∧X.length≤100000∧Y.length≤100000:=by
 obtain⟨s,h1,hs⟩:=TU l hl hb
 obtain⟨v,h2,g2,hS,hX⟩:=WQ hs
 have h2:mH ((s.1,s.2.1,s.2.2.1,()),())=some v:=h2
 obtain⟨v3,e3,d3,g3⟩:=ay (n:=4) g2
 have e4:cB ((100:Int),(1:Int),())=_:=lD 100 1 (by omega)
 obtain⟨v5,e5,g5,l5⟩:=R0 (v.2.2.1.length:Int) g3
 obtain⟨v6,e6,l6⟩:=R4 v.2.2.1 v5.1 (by omega) (by omega)
 obtain⟨v7,e7,g7,l7⟩:=WP g5
 have hz:=mN hS
 unfold iP
 simp only[h1,h2,e3,e4,e5,e6,e7,cE,jI]
 split
 ·exact⟨v.1,v.2.1,v.2.2.1,v.2.2.1,rfl,hz,hX,hX⟩
 ·split
  ·exact⟨v.1,v.2.1,v.2.2.1,List.replicate 100 1,rfl,hz,hX,by rw[List.length_replicate];omega⟩
  ·split
   ·exact⟨v.1,v.2.1,v.2.2.1,v7.1,rfl,hz,hX,l7⟩
   ·exact⟨v.1,v.2.1,v.2.2.1,v6.1,rfl,hz,hX,l6⟩
end Go.Proofs.YtckljdhdadiphaaGreatDoor
